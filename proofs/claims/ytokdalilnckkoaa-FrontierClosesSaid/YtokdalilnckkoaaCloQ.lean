/- FrontierCloses: what holds at the heads of the law's loops: no walk. -/
import Derived.Test.YtokdalilnckkoaaCloW
import Derived.Test.YtokdalilnckkoaaAwake
namespace Go.Proofs.Ytokdalilnckkoaa
open Go.RowKit Go.Shelf

/-- wpList_app1, the new block's number spelt otherwise. -/
theorem wpList_app1at {P : Program} {t e : TypeId} {bytes : Nat} (h : OneCell P t e bytes) {w : World} {ops : Array Oper} {rest : List Oper} {o : Oper} {a : Act} {Q : Exit → Act → World → Prop} (hgd : o.guard = none) (s x : Operand) (ho : o.op = .call { callee := .builtin .append, args := #[s, x], argTypes := #[t, t] })
    (base : Nat) (v : Value) (xs : List Value) (u : Value) (p : Nat) (hp : w.heap.size = p) (hs : a.eval s = v) (hx : a.eval x = .slice (some ⟨p, 0, none⟩) 1 1) (hown : w.ownsRow base e 1 v xs.length xs) (h1 : u.oneCell' = true)
    (h63 : xs.length + 1 ≤ maxLen) (hbytes : (xs.length + 1) * bytes ≤ 140737488355328) (hbase : base ≤ w.heap.size)
    (hK : ∀ v' w', w'.ownsRow base e 1 v' (xs ++ [u]).length (xs ++ [u]) → (∀ b, b < w.heap.size → v.ownBlock ≠ some b → w'.heap[b]? = w.heap[b]?) → (v'.ownBlock = v.ownBlock ∨ ∀ b, v'.ownBlock = some b → w.heap.size < b) → (∀ B, B ≤ w.heap.size → (∀ b, v.ownBlock = some b → B ≤ b) → Below B w w') → wpList P ops Q rest (a.put o.dst v') w') :
    wpList P ops Q (o :: rest) a (w.alloc (.cells #[u] e)) := by
  subst hp
  exact wpList_app1 h hgd s x ho base v xs u hs hx hown h1 h63 hbytes hbase hK

def idle0 : CW := ⟨none, [], false, false⟩

theorem Stk.run {o i : Nat} : ∀ (n : Nat) {m : Mem Int} {ops : List (Nat × OpS)} {s : OpS}, Stk m ops → ops[i]? = some (o, s) → Stk (allSteps n m s).1 (ops.set i (o, (allSteps n m s).2))
  | 0, m, ops, s, h, hi => by
    simp only [allSteps, set_back hi]
    exact h
  | n + 1, m, ops, s, h, hi => by
    unfold allSteps
    split
    · simp only [set_back hi]
      exact h
    · have hl : i < ops.length := (List.getElem?_eq_some_iff.1 hi).1
      have := Stk.run n (h.step hi) (s := (stp m s).2.1) (by rw [List.getElem?_set_self hl])
      rw [List.set_set] at this
      exact this

theorem tot_idle (Ω : Om) (m : Mem Int) (ops : List (Nat × OpS)) : ∀ k : Nat, ((List.replicate k idle0).map (wkv Ω m ops)).sum = 0
  | 0 => rfl
  | k + 1 => by
    have h0 : wkv Ω m ops idle0 = 0 := by simp [wkv, idle0, ixv]
    rw [List.replicate_succ, List.map_cons, List.sum_cons, tot_idle Ω m ops k, h0]
    rfl

/-- The frontier behind f.Push(n).Run(), and idle workers. -/
theorem inv0 (c o : Nat) (n : Int) (hn : 1 ≤ n) (k : Nat) : Inv n (8 * n - 6) (allSteps 5 (addCell mem0I c n) (opPush c)).1 [(o, (allSteps 5 (addCell mem0I c n) (opPush c)).2)] (List.replicate k idle0) [] := by
  have hstk := Stk.run (i := 0) (o := o) 5 (s := opPush c) (stk0.push o c n (by simp [mem0I])) rfl
  rw [push_alone] at hstk ⊢
  have hlt : ∀ w ∈ List.replicate k idle0, w = idle0 := fun w hw => List.eq_of_mem_replicate hw
  refine ⟨hstk, fun d hd => ?_, fun w hw => ?_, fun j j' a v w hj hj' hv hw => ?_, [c], ?_, ?_, ?_, ?_, ?_⟩
  · have : d = c := by simpa [addCell, mem0I] using hd
    subst this
    simp [addCell, upd]
    exact hn
  · rw [hlt w hw]
    exact ⟨(fun e => by cases e), fun e => absurd rfl e, (fun x hx => by cases hx), (fun i hi => by cases hi)⟩
  · rw [hlt v (List.mem_of_getElem? hj)] at hv
    cases hv
  · exact ⟨rfl, by simp [addCell, mem0I], by simp [addCell, mem0I, upd, Chain]⟩
  · unfold Tot
    rw [tot_idle]
    simp [oPd, addCell, mem0I]
  · unfold Tot
    rw [tot_idle]
    simp [oCnt, addCell, upd]
  · unfold Tot
    rw [tot_idle]
    simp [oOne, addCell, upd]
  · unfold Tot
    rw [tot_idle]
    simp [oP, addCell, upd]

/-- The list of the workers. -/
def Row (w : World) (B : Nat) (v : Value) (qs : List Nat) : Prop := Ow w B 42 v (qs.map pt)

theorem Try.wksz : OneCell Try.prog 41 42 8 := by
  refine ⟨by kernel_rfl, ?_⟩
  obtain ⟨i, hi, hz⟩ := Option.map_eq_some_iff.1 (show (Try.prog.info? 42).map (fun i => (i.zero, i.size, i.bytes)) = some (some (.pointer none), 1, 8) by kernel_rfl)
  simp only [Prod.mk.injEq] at hz
  exact ⟨i, _, hi, hz.1, hz.2.1, hz.2.2, rfl⟩

section
variable {w0 w w1 w2 : World} {g b9 : Nat} {qs : List Nat} {m : Mem Int} {ops : List (Nat × OpS)} {ws : List CW} {seen : List Int} {vs vl vl' : Value}
/-- One more worker. -/
theorem C1.more (h : C1 w0 g b9 qs m ops ws seen vs w) (hr : Row w w0.heap.size vl qs)
    (hown : w2.ownsRow w0.heap.size 42 1 vl' (qs.map pt ++ [pt w.heap.size]).length (qs.map pt ++ [pt w.heap.size])) (G : Gw (w.alloc (.cells (wcells g b9 (.pointer none) none 0 0 false false) 45)) w2 vl) :
    C1 w0 g b9 (qs ++ [w.heap.size]) m ops (ws ++ [idle0]) seen vs w2 ∧ Row w2 w0.heap.size vl' (qs ++ [w.heap.size]) := by
  have hA := h.grow ((Below.refl _ w).alloc (Nat.le_refl _) (.cells (wcells g b9 (.pointer none) none 0 0 false false) 45))
  have hrA : Ow (w.alloc (.cells (wcells g b9 (.pointer none) none 0 0 false false) 45)) w0.heap.size 42 vl (qs.map pt) := Ow.alloc hr _
  have hnew := Bk.made w 45 (wcells g b9 (.pointer none) none 0 0 false false)
  have hq : ∀ q ∈ qs, q < w.heap.size := fun q hq => by
    obtain ⟨k, hk, rfl⟩ := List.mem_iff_getElem.1 hq
    have hkw : k < ws.length := by rw [← h.len]; exact hk
    obtain ⟨_, A, c, hm⟩ := h.wk k _ _ (List.getElem?_eq_getElem hk) (List.getElem?_eq_getElem hkw)
    exact Bk.lt hm.bk
  refine ⟨⟨G.en hrA (by decide) hA.en, G.bk hrA hA.x9 (by decide), G.ow hA.own (Ow.apart hA.own hrA (by decide)), hA.hb9, fun k q cw hk hw => ?_, ?_, by simp [h.len]⟩, ?_⟩
  · rcases Nat.lt_or_ge k qs.length with hl | hl
    · rw [List.getElem?_append_left hl] at hk
      rw [List.getElem?_append_left (by rw [← h.len]; exact hl)] at hw
      obtain ⟨hr1, A, c, hm⟩ := hA.wk k q cw hk hw
      exact ⟨hr1, A, c, G.bk hrA hm.bk (by decide), hm.cap, hm.max, hm.todo.keep G.size (fun b cs hb _ => G.bk hrA hb (by decide)) (.inl rfl)⟩
    · rw [List.getElem?_append_right hl] at hk
      rw [List.getElem?_append_right (by rw [← h.len]; exact hl), ← h.len] at hw
      have : k - qs.length = 0 := by
        rcases Nat.eq_zero_or_pos (k - qs.length) with e | e
        · exact e
        · rw [List.getElem?_eq_none (by simp; omega)] at hk; cases hk
      rw [this] at hk hw
      simp at hk hw
      subst hk
      subst hw
      exact ⟨h.en.bel.size, none, 0, G.bk hrA hnew (by decide), Nat.le_refl _, Nat.zero_le _, ⟨Sees.nil, fun e => absurd rfl e⟩⟩
  · rw [List.nodup_append]
    refine ⟨h.nd, by simp, fun a ha b hb e => ?_⟩
    rw [List.mem_singleton] at hb
    have := hq a ha
    omega
  · unfold Row Ow
    simpa using hown
/-- The row of the workers behind a step. -/
theorem Row.fmw {q : Nat} {cs : Array Value} (h : Row w w0.heap.size vl qs) (hf : FmW w0.heap.size q b9 vs w w1) (hq : Bk w q 45 cs) {c9 : Array Value} (h9 : Bk w b9 34 c9) {us : List Value} (hv : Ow w w0.heap.size 3 vs us) : Row w1 w0.heap.size vl qs := Ow.keep h fun b hb => by
  obtain ⟨cur, hh⟩ := Ow.bk h b hb
  exact (hf.keep b 42 cur hh (fun e => Ow.ne h hq (by decide) (e ▸ hb)) (fun e => Ow.ne h h9 (by decide) (e ▸ hb)) (hv.ne hh (by decide)) (by decide)).trans (Eq.symm hh)
theorem Row.below (h : Row w w0.heap.size vl qs) (hb : Below w.heap.size w w1) : Row w1 w0.heap.size vl qs := Ow.below h hb (Nat.le_refl _)
theorem Row.at {A : Option Addr} {n c k q : Nat} (h : Row w w0.heap.size (.slice A n c) qs) (hk : qs[k]? = some q) : n = qs.length ∧ ∃ ad, A = some ad ∧ w.cell? (ad.add k) = some (.pointer (some ⟨q, 0, none⟩)) := by
  have hf := Ow.form h
  obtain ⟨A', c', e, _, _, hs⟩ := hf
  injection e with e1 e2 e3
  subst e1
  rw [List.length_map] at e2
  obtain ⟨ad, e, _, hc⟩ := hs k (pt q) (by rw [List.getElem?_map, hk]; rfl)
  exact ⟨e2, ad, e, hc⟩
end

/-- What holds at the head of a round of the great loop. -/
structure C2 (w0 : World) (g b9 : Nat) (qs : List Nat) (n p : Int) (m : Mem Int) (ops : List (Nat × OpS)) (ws : List CW) (seen : List Int) (vs vl : Value) (N k : Nat) (w : World) : Prop where
  inv : Inv n p m ops ws seen
  c1 : C1 w0 g b9 qs m ops ws seen vs w
  row : Row w w0.heap.size vl qs
  p90 : p ≤ 90
  live : N ≤ k → Live p m ops ws k (3000 - k)

theorem C2.next {w0 w w1 : World} {g b9 : Nat} {qs : List Nat} {n p : Int} {m m' : Mem Int} {ops ops' : List (Nat × OpS)} {ws ws' : List CW} {seen seen' : List Int} {vs vs' vl : Value} {N k r q : Nat} (h : C2 w0 g b9 qs n p m ops ws seen vs vl N k w) (hN : N ≤ 400) (hW : 0 < ws.length ∧ ws.length ≤ 4) (hk : k < 3000) (hr : N ≤ k → r = k % ws.length) (hq : qs[r]? = some q)
    (hs : WStep m ops ws seen r m' ops' ws' seen') (hC : C1 w0 g b9 qs m' ops' ws' seen' vs' w1) (hf : FmW w0.heap.size q b9 vs w w1) : ws'.length = ws.length ∧ ∃ p', C2 w0 g b9 qs n p' m' ops' ws' seen' vs' vl N (k + 1) w1 := by
  have hrl : r < ws.length := by rw [← h.c1.len]; exact (List.getElem?_eq_some_iff.1 hq).1
  obtain ⟨_, A, c, hm⟩ := h.c1.wk r q _ hq (List.getElem?_eq_getElem hrl)
  have hrow := h.row.fmw hf hm.bk h.c1.x9 h.c1.own
  by_cases hNk : N ≤ k
  · have hl := h.live hNk
    rw [show 3000 - k = (3000 - (k + 1)) + 1 from by omega] at hl
    rw [hr hNk] at hs
    obtain ⟨e, p', hp, hI, hL⟩ := Live.step h.inv hl hW.1 hs
    exact ⟨e, p', hI, hC, hrow, by have := h.p90; omega, fun _ => hL⟩
  · obtain ⟨e, p', hI, hc⟩ := h.inv.step hs
    have hp : p' ≤ 90 := by
      have := h.p90
      rcases hc with e | ⟨e, _⟩ <;> omega
    refine ⟨e, p', hI, hC, hrow, hp, fun _ => ?_⟩
    refine (hI.live (by omega) (k + 1)).mono ?_
    have h1 : 4 * ws'.length * p'.toNat ≤ 16 * 90 := Nat.mul_le_mul (by omega) (by omega)
    omega

theorem C2.ended {w0 w : World} {g b9 : Nat} {qs : List Nat} {n p : Int} {m : Mem Int} {ops : List (Nat × OpS)} {ws : List CW} {seen : List Int} {vs vl : Value} {N k : Nat} (h : C2 w0 g b9 qs n p m ops ws seen vs vl N k w) {cw : CW} (hw : cw ∈ ws) (he : cw.ended = true) : (seen.length : Int) = 2 * n - 1 ∧ m.pd = 0 ∧ m.top = none := by
  obtain ⟨h1, h2, _, h4, _⟩ := h.inv.zero (h.inv.endz hw he)
  exact ⟨h4, h2, h1⟩

theorem C2.grow {w0 w w1 : World} {g b9 : Nat} {qs : List Nat} {n p : Int} {m : Mem Int} {ops : List (Nat × OpS)} {ws : List CW} {seen : List Int} {vs vl : Value} {N k : Nat} (h : C2 w0 g b9 qs n p m ops ws seen vs vl N k w) (hb : Below w.heap.size w w1) : C2 w0 g b9 qs n p m ops ws seen vs vl N k w1 :=
  ⟨h.inv, h.c1.grow hb, h.row.below hb, h.p90, h.live⟩
theorem C2.at {w0 w : World} {g b9 : Nat} {qs : List Nat} {n p : Int} {m : Mem Int} {ops : List (Nat × OpS)} {ws : List CW} {seen : List Int} {vs vl : Value} {N k r q : Nat} (h : C2 w0 g b9 qs n p m ops ws seen vs vl N k w) (hq : qs[r]? = some q) : ∃ cw, ws[r]? = some cw ∧ w.cell? ⟨q, 6, none⟩ = some (.bool cw.ended) := by
  have hr : r < ws.length := by rw [← h.c1.len]; exact (List.getElem?_eq_some_iff.1 hq).1
  obtain ⟨_, A, c, hm⟩ := h.c1.wk r q _ hq (List.getElem?_eq_getElem hr)
  exact ⟨_, List.getElem?_eq_getElem hr, hm.bk.cell 6⟩
theorem C2.box {w0 w : World} {g b9 : Nat} {qs : List Nat} {n p : Int} {m : Mem Int} {ops : List (Nat × OpS)} {ws : List CW} {seen : List Int} {vs vl : Value} {N k : Nat} (h : C2 w0 g b9 qs n p m ops ws seen vs vl N k w) : ∃ A c, vs = .slice A seen.length c ∧ w.cell? ⟨b9, 0, none⟩ = some (.slice A seen.length c) := by
  obtain ⟨A, c, e, _⟩ := h.c1.own.form
  rw [List.length_map] at e
  exact ⟨A, c, e, by rw [← e]; exact h.c1.x9.cell⟩

end Go.Proofs.Ytokdalilnckkoaa
