/- FrontierCloses: the workers in memory: no walk. -/
import Derived.Test.YtokdalilnckkoaaCloL
import Derived.Test.YtokdalilnckkoaaStepsQ
namespace Go.Proofs.Ytokdalilnckkoaa
open Go.RowKit Go.Shelf

/-- The pointer to the operation with an index. -/
def opp (ops : List (Nat × OpS)) (ix : Option Nat) : Value := pv (ix.bind fun i => ops[i]?.map (·.1))

/-- The items to be pushed lie at A; the row of vs is another one. -/
structure TodoM (w : World) (vs : Value) (A : Option Addr) (todo : List Int) : Prop where
  see : Sees w w.heap.size A (todo.map (Value.int .i64))
  at_ : todo ≠ [] → ∃ ad cs, A = some ad ∧ Bk w ad.block 3 cs ∧ vs.ownBlock ≠ some ad.block

def wcells (g b9 : Nat) (op : Value) (A : Option Addr) (n c : Nat) (having ended : Bool) : Array Value := #[.pointer (some ⟨g, 0, none⟩), op, .slice A n c, .bool having, .pointer (some ⟨b9, 0, none⟩), .int .i64 0, .bool ended]

structure WkM (w : World) (g b9 : Nat) (ops : List (Nat × OpS)) (vs : Value) (q : Nat) (cw : CW) (A : Option Addr) (c : Nat) : Prop where
  bk : Bk w q 45 (wcells g b9 (opp ops cw.ix) A cw.todo.length c cw.having cw.ended)
  cap : cw.todo.length ≤ c
  max : c ≤ maxLen
  todo : TodoM w vs A cw.todo

/-- What a step of the worker at q may change. -/
structure FmW (B q b9 : Nat) (vs : Value) (w w' : World) : Prop where
  bel : Below B w w'
  keep : ∀ b t cs, Bk w b t cs → b ≠ q → b ≠ b9 → vs.ownBlock ≠ some b → t ≠ 79 ∧ t ≠ 83 ∧ t ≠ 81 → Bk w' b t cs

/-- Nothing has changed but the worker at q and the machine. -/
structure FmQ (B q : Nat) (w w' : World) : Prop where
  bel : Below B w w'
  keep : ∀ b t cs, Bk w b t cs → b ≠ q → t ≠ 79 ∧ t ≠ 83 ∧ t ≠ 81 → Bk w' b t cs

section
variable {w w' w'' : World} {B q b9 g c : Nat} {vs vs' : Value} {A : Option Addr} {todo : List Int} {ops ops' : List (Nat × OpS)} {cw cw' : CW}
theorem FmW.refl (B q b9 : Nat) (vs : Value) (w : World) : FmW B q b9 vs w w := ⟨Below.refl _ _, fun _ _ _ h _ _ _ _ => h⟩
theorem FmW.fm (hf : FmI w w') (hb : Below B w w') : FmW B q b9 vs w w' := ⟨hb, fun _ _ _ h _ _ _ ht => hf.bk h ht⟩
theorem FmW.trans (h : FmW B q b9 vs w w') (k : FmW B q b9 vs w' w'') : FmW B q b9 vs w w'' := ⟨h.bel.trans k.bel, fun b t cs hb h1 h2 h3 h4 => k.keep b t cs (h.keep b t cs hb h1 h2 h3 h4) h1 h2 h3 h4⟩
theorem FmW.set (h : FmW B q b9 vs w w') (i : Nat) (x : Value) (hB : B ≤ q) : FmW B q b9 vs w (w'.setCell ⟨q, i, none⟩ x) := ⟨h.bel.setCell hB _, fun b t cs hb h1 h2 h3 h4 => Bk.other (h.keep b t cs hb h1 h2 h3 h4) h1 _⟩
theorem FmW.alloc (h : FmW B q b9 vs w w') (hB : B ≤ w'.heap.size) (o : Obj) : FmW B q b9 vs w (w'.alloc o) := ⟨h.bel.alloc hB _, fun b t cs hb h1 h2 h3 h4 => (h.keep b t cs hb h1 h2 h3 h4).alloc _⟩
theorem FmW.drewN (h : FmW B q b9 vs w w') (k : Nat) : FmW B q b9 vs w (w'.drewN k) := ⟨below_drewN h.bel k, fun b t cs hb h1 h2 h3 h4 => h.keep b t cs hb h1 h2 h3 h4⟩
theorem FmQ.refl (B q : Nat) (w : World) : FmQ B q w w := ⟨Below.refl _ _, fun _ _ _ h _ _ => h⟩
theorem FmQ.fm (hf : FmI w w') (hb : Below B w w') : FmQ B q w w' := ⟨hb, fun _ _ _ h _ ht => hf.bk h ht⟩
theorem FmQ.trans (h : FmQ B q w w') (k : FmQ B q w' w'') : FmQ B q w w'' := ⟨h.bel.trans k.bel, fun b t cs hb h1 h4 => k.keep b t cs (h.keep b t cs hb h1 h4) h1 h4⟩
theorem FmQ.set (h : FmQ B q w w') (i : Nat) (x : Value) (hB : B ≤ q) : FmQ B q w (w'.setCell ⟨q, i, none⟩ x) := ⟨h.bel.setCell hB _, fun b t cs hb h1 h4 => Bk.other (h.keep b t cs hb h1 h4) h1 _⟩
theorem FmQ.wide (h : FmQ B q w w') (b9 : Nat) (vs : Value) : FmW B q b9 vs w w' := ⟨h.bel, fun b t cs hb h1 _ _ h4 => h.keep b t cs hb h1 h4⟩
theorem FmQ.ow {e B' : Nat} {us : List Value} (h : FmQ B q w w') (ho : Ow w B' e vs us) (he : e ≠ 79 ∧ e ≠ 83 ∧ e ≠ 81) {t : Nat} {cs : Array Value} (hq : Bk w q t cs) (ht : t ≠ e) : Ow w' B' e vs us := ho.keep fun b hb => by
  obtain ⟨cur, hh⟩ := ho.bk b hb
  exact (h.keep b e cur hh (fun e' => ho.ne hq ht (e' ▸ hb)) he).trans (Eq.symm hh)
theorem TodoM.keep (h : TodoM w vs A todo) (hs : w.heap.size ≤ w'.heap.size) (hk : ∀ b cs, Bk w b 3 cs → vs.ownBlock ≠ some b → Bk w' b 3 cs) (ho : vs'.ownBlock = vs.ownBlock ∨ ∀ b, vs'.ownBlock = some b → w.heap.size ≤ b) : TodoM w' vs' A todo := by
  by_cases h0 : todo = []
  · subst h0
    exact ⟨Sees.nil, fun e => absurd rfl e⟩
  · obtain ⟨ad, cs, rfl, hb, hne⟩ := h.at_ h0
    have hb' := hk _ _ hb hne
    refine ⟨fun j u hu => ?_, fun _ => ⟨ad, cs, rfl, hb', ?_⟩⟩
    · obtain ⟨ad', e, hlt, hc⟩ := h.see j u hu
      injection e with e
      subst e
      refine ⟨ad, rfl, by omega, (World.cell?_of_block ?_).trans hc⟩
      rw [add_blk]
      exact hb'.trans (Eq.symm hb)
    · rcases ho with e | e
      · rw [e]; exact hne
      · intro e'
        have := e _ e'
        have := hb.lt
        omega
theorem TodoM.fmw (h : TodoM w vs A todo) (hf : FmW B q b9 vs w w') (hq : ∀ cs, ¬ Bk w q 3 cs) (h9 : ∀ cs, ¬ Bk w b9 3 cs) (ho : vs'.ownBlock = vs.ownBlock ∨ ∀ b, vs'.ownBlock = some b → w.heap.size ≤ b) : TodoM w' vs' A todo :=
  h.keep hf.bel.size (fun b cs hb hne => hf.keep b 3 cs hb (fun e => hq cs (e ▸ hb)) (fun e => h9 cs (e ▸ hb)) hne (by decide)) ho
/-- Another worker. -/
theorem WkM.other {q' : Nat} (h : WkM w g b9 ops vs q' cw A c) (hf : FmW B q b9 vs w w') (hqq : q' ≠ q) {cs9 csq : Array Value} (h9 : Bk w b9 34 cs9) (hq : Bk w q 45 csq) {xs : List Value} (hv : Ow w B 3 vs xs) (hop : opp ops' cw.ix = opp ops cw.ix)
    (ho : vs'.ownBlock = vs.ownBlock ∨ ∀ b, vs'.ownBlock = some b → w.heap.size ≤ b) : WkM w' g b9 ops' vs' q' cw A c :=
  ⟨by rw [hop]; exact hf.keep _ _ _ h.bk hqq (Bk.ne h.bk h9 (by decide)) (hv.ne h.bk (by decide)) (by decide), h.cap, h.max, h.todo.fmw hf (fun cs hb => Bk.ne hb hq (by decide) rfl) (fun cs hb => Bk.ne hb h9 (by decide) rfl) ho⟩
end

/-- All of it. -/
structure C1 (w0 : World) (g b9 : Nat) (qs : List Nat) (m : Mem Int) (ops : List (Nat × OpS)) (ws : List CW) (seen : List Int) (vs : Value) (w : World) : Prop where
  en : EnI w0 w g m ops
  x9 : Boxed w b9 34 vs
  own : Ow w w0.heap.size 3 vs (seen.map (Value.int .i64))
  hb9 : w0.heap.size ≤ b9
  wk : ∀ (k q : Nat) (cw : CW), qs[k]? = some q → ws[k]? = some cw → w0.heap.size ≤ q ∧ ∃ A c, WkM w g b9 ops vs q cw A c
  nd : qs.Nodup
  len : qs.length = ws.length

theorem opp_more {ops : List (Nat × OpS)} {ix : Option Nat} (p : Nat × OpS) (h : ∀ i, ix = some i → ∃ a, ops[i]? = some a) : opp (ops ++ [p]) ix = opp ops ix := by
  unfold opp
  cases ix with
  | none => rfl
  | some i =>
    obtain ⟨a, ha⟩ := h i rfl
    simp only [Option.bind_some]
    rw [List.getElem?_append_left (List.getElem?_eq_some_iff.1 ha).1]
theorem opp_set {ops : List (Nat × OpS)} {ix : Option Nat} {i o : Nat} {s s' : OpS} (hi : ops[i]? = some (o, s)) : opp (ops.set i (o, s')) ix = opp ops ix := by
  unfold opp
  cases ix with
  | none => rfl
  | some j =>
    simp only [Option.bind_some]
    by_cases hij : i = j
    · subst hij
      rw [List.getElem?_set_self (List.getElem?_eq_some_iff.1 hi).1, hi]
      rfl
    · rw [List.getElem?_set_ne hij]

section
variable {w0 w w' : World} {g b9 : Nat} {qs : List Nat} {m m' : Mem Int} {ops ops' : List (Nat × OpS)} {ws : List CW} {seen seen' : List Int} {vs vs' : Value} {k q : Nat} {cw cw' : CW} {A' : Option Addr} {c' : Nat}
/-- The worker at q has performed a step. -/
theorem C1.after (h : C1 w0 g b9 qs m ops ws seen vs w) (hk : qs[k]? = some q) (hw : ws[k]? = some cw) (hf : FmW w0.heap.size q b9 vs w w') (hE : EnI w0 w' g m' ops') (h9 : Boxed w' b9 34 vs') (hown : Ow w' w0.heap.size 3 vs' (seen'.map (Value.int .i64)))
    (ho : vs'.ownBlock = vs.ownBlock ∨ ∀ b, vs'.ownBlock = some b → w.heap.size ≤ b) (hm : WkM w' g b9 ops' vs' q cw' A' c') (hop : ∀ (j : Nat) (v : CW), ws[j]? = some v → opp ops' v.ix = opp ops v.ix) : C1 w0 g b9 qs m' ops' (ws.set k cw') seen' vs' w' := by
  have hq := (h.wk k q cw hk hw).1
  obtain ⟨A, c, hwm⟩ := (h.wk k q cw hk hw).2
  refine ⟨hE, h9, hown, h.hb9, fun j r v hj hv => ?_, h.nd, by rw [List.length_set]; exact h.len⟩
  by_cases hjk : k = j
  · subst hjk
    rw [hk] at hj
    injection hj with hj
    subst hj
    rw [List.getElem?_set_self (List.getElem?_eq_some_iff.1 hw).1] at hv
    injection hv with hv
    subst hv
    exact ⟨hq, _, _, hm⟩
  · rw [List.getElem?_set_ne hjk] at hv
    obtain ⟨hr, A1, c1, hm1⟩ := h.wk j r v hj hv
    refine ⟨hr, A1, c1, hm1.other hf (fun e => hjk ?_) h.x9 hwm.bk h.own (hop j v hv) ho⟩
    subst e
    obtain ⟨hj', ej⟩ := List.getElem?_eq_some_iff.1 hj
    obtain ⟨hk', ek⟩ := List.getElem?_eq_some_iff.1 hk
    exact (nodup_inj h.nd (ej.trans ek.symm)).symm
theorem C1.grow (h : C1 w0 g b9 qs m ops ws seen vs w) (hb : Below w.heap.size w w') : C1 w0 g b9 qs m ops ws seen vs w' :=
  ⟨h.en.grow hb, Bk.below h.x9 hb (Bk.lt h.x9), h.own.below hb (Nat.le_refl _), h.hb9, fun j r v hj hv => by
    obtain ⟨hr, A1, c1, hm1⟩ := h.wk j r v hj hv
    exact ⟨hr, A1, c1, Bk.below hm1.bk hb (Bk.lt hm1.bk), hm1.cap, hm1.max, hm1.todo.keep hb.size (fun b cs hb' _ => Bk.below hb' hb hb'.lt) (.inl rfl)⟩, h.nd, h.len⟩
end

end Go.Proofs.Ytokdalilnckkoaa
