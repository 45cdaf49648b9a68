/- FrontierCloses: a step of a worker: walked. -/
import Derived.Test.YtokdalilnckkoaaCloN
import Derived.Test.YtokdalilnckkoaaRefP
import Derived.Deep.RegionLaw
namespace Go.Proofs.Ytokdalilnckkoaa
open Go.RowKit Go.Shelf

attribute [local go_sem] Oper.semAt_some

theorem step_app {P : Program} {t e : TypeId} {bytes : Nat} (h : OneCell P t e bytes) {ops : Array Oper} {w : World} {o : Oper} {a : Act} {K : Act → World → Prop} {Q : Exit → Act → World → Prop} {E : Prop} (hgd : o.guard = none) (s x : Operand) (ho : o.op = .call { callee := .builtin .append, args := #[s, x], argTypes := #[t, t] })
    (base : Nat) (v : Value) (xs : List Value) (hs : a.eval s = v) (hown : w.ownsRow base e 1 v xs.length xs) (B : Nat) (A : Option Addr) (m c : Nat) (ys : List Value) (hx : a.eval x = .slice A m c) (hys : ys.length = m) (hsee : Sees w B A ys) (h1 : ∀ u ∈ ys, u.oneCell' = true)
    (h63 : xs.length + m ≤ maxLen) (hbytes : (xs.length + m) * bytes ≤ 140737488355328) (hbase : base ≤ w.heap.size)
    (hK : ∀ v' w', w'.ownsRow base e 1 v' (xs ++ ys).length (xs ++ ys) → w.grownBy w' v.ownBlock → (v'.ownBlock = v.ownBlock ∨ v'.ownBlock = some w.heap.size) → K (a.put o.dst v') w') :
    if Region.wanted o (yielded ops a.tmps) = true then Oper.wp P o a w K Q else E := by
  have hw : Region.wanted o (yielded ops a.tmps) = true := by simp [Region.wanted, hgd]
  rw [if_pos hw]
  exact wp_app h w s x ho base v xs hs hown B A m c ys hx hys hsee h1 h63 hbytes hbase hK

/-- The items seen, the worker and the machine, behind w4. -/
structure Sn (w0 : World) (g b9 q : Nat) (m : Mem Int) (ops : List (Nat × OpS)) (cells : Array Value) (vs0 vs : Value) (seen : List Int) (w4 w : World) : Prop where
  en : EnI w0 w g m ops
  x9 : Boxed w b9 34 vs
  own : Ow w w0.heap.size 3 vs (seen.map (Value.int .i64))
  bk : Bk w q 45 cells
  fm : FmW w0.heap.size q b9 vs0 w4 w
  ho : vs.ownBlock = vs0.ownBlock ∨ ∀ b, vs.ownBlock = some b → w4.heap.size ≤ b

theorem sn_grow {w0 w4 w5 : World} {g b9 q : Nat} {m : Mem Int} {ops : List (Nat × OpS)} {cells : Array Value} {vs vs' : Value} {seen : List Int} {x : Int} {o : Obj} (hE : EnI w0 w4 g m ops) (h9 : Boxed w4 b9 34 vs) (hO : Ow w4 w0.heap.size 3 vs (seen.map (Value.int .i64))) (hb : Bk w4 q 45 cells) (hb9 : w0.heap.size ≤ b9)
    (hown0 : w5.ownsRow w0.heap.size 3 1 vs' (seen.map (Value.int .i64) ++ [Value.int .i64 x]).length (seen.map (Value.int .i64) ++ [Value.int .i64 x])) (hg : ((w4.alloc o).drew).grownBy w5 vs.ownBlock) (hob : vs'.ownBlock = vs.ownBlock ∨ vs'.ownBlock = some ((w4.alloc o).drew).heap.size) :
    Boxed w5 b9 34 vs ∧ Bk w5 q 45 cells ∧ (∃ A c, vs' = .slice A (seen.length + 1) c) ∧ Sn w0 g b9 q m ops cells vs vs' (seen ++ [x]) w4 (w5.setCell ⟨b9, 0, none⟩ vs') := by
  have G : Gw w4 w5 vs := gw_of hg
  have hown : w5.ownsRow w0.heap.size 3 1 vs' (seen.length + 1) (seen.map (Value.int .i64) ++ [.int .i64 x]) := by simpa using hown0
  have h9' : Boxed w5 b9 34 vs := G.bk hO h9 (by decide)
  have hown' : Ow w5 w0.heap.size 3 vs' ((seen ++ [x]).map (Value.int .i64)) := by
    unfold Ow
    rw [List.map_append, List.length_append, List.length_map]
    exact hown
  have hc : ∀ b, b ≠ b9 → (w5.setCell ⟨b9, 0, none⟩ vs').heap[b]? = w5.heap[b]? := fun b hb => Below.heap_setCell w5 ⟨b9, 0, none⟩ _ b hb
  refine ⟨h9', G.bk hO hb (by decide), rw_form hown, ⟨(G.en hO (by decide) hE).own h9' (by decide) hb9 ((Ch.refl _ _).set (by simp) _), ?_, hown'.keep fun b e => hc b fun e' => hown'.ne h9' (by decide) (e' ▸ e), ?_, ⟨?_, ?_⟩, ?_⟩⟩
  · have := Bk.put h9' 0 vs'
    simpa [Boxed, Bk] using this
  · have hb5 := G.bk hO hb (by decide)
    exact hb5.keep (hc _ (Bk.ne hb5 h9' (by decide)))
  · exact (G.bel _ hE.bel.size (fun b e => (hO.lt b e).1)).setCell hb9 _
  · intro b t cs hbb h1 h2 h3 _
    exact (hbb.keep (G.keep b hbb.lt h3)).keep (hc b h2)
  · rcases hob with e | e
    · exact .inl e
    · refine .inr fun b eb => ?_
      rw [eb] at e
      injection e with e
      have hsz : ((w4.alloc o).drew).heap.size = w4.heap.size + 1 := World.size_alloc ..
      omega

section
variable {m : Mem Int} {ops : List (Nat × OpS)} {ws : List CW} {n p : Int} {seen : List Int}
theorem oCnt_ok : OmOk oCnt := ⟨fun _ _ => by simp [oCnt]; omega, fun _ _ => by simp [oCnt]; omega, fun _ _ => by simp [oCnt]; omega, by simp [oCnt]⟩
theorem oOne_ok : OmOk oOne := ⟨fun _ _ => by simp [oOne]; omega, fun _ _ => by simp [oOne]; omega, fun _ _ => by simp [oOne]; omega, by simp [oOne]⟩
theorem Inv.seen_le (h : Inv n p m ops ws seen) : (seen.length : Int) ≤ 2 * n - 1 := by
  obtain ⟨L, hL, _, e2, _⟩ := h.ex
  have := h.parts oCnt_ok hL
  unfold Tot at e2
  omega
theorem Inv.top_le (h : Inv n p m ops ws seen) {c : Nat} (ht : m.top = some c) : m.item c ≤ n := by
  obtain ⟨L, hL, _, _, e3, _⟩ := h.ex
  have h1 := h.parts oOne_ok hL
  cases L with
  | nil => rw [show m.top = none from hL] at ht; cases ht
  | cons d L =>
    have hd := hL.1
    rw [ht] at hd
    injection hd with hd
    subst hd
    have h2 := h.inL hL
    have h3 : 0 ≤ (L.map fun c => oOne.stack (m.item c)).sum := sum_nonneg fun x hx => by
      obtain ⟨d, hd, rfl⟩ := List.mem_map.1 hx
      exact oOne_ok.stack _ (h.pos d (h2 d (by simp [hd])))
    unfold Tot at e3
    simp only [List.map_cons, List.sum_cons] at e3
    have : oOne.stack (m.item c) = m.item c := rfl
    omega
theorem sum_le_of {α : Type} {f f' : α → Int} : ∀ {l : List α}, (∀ a ∈ l, f a ≤ f' a) → (l.map f).sum ≤ (l.map f').sum
  | [], _ => Int.le_refl _
  | a :: l, h => by
    have h1 := h a (by simp)
    have h2 := sum_le_of (l := l) (fun b hb => h b (by simp [hb]))
    simp only [List.map_cons, List.sum_cons]
    omega
theorem Inv.pd_le (h : Inv n p m ops ws seen) : 0 ≤ m.pd ∧ m.pd ≤ p := by
  obtain ⟨L, hL, e1, _, _, e4⟩ := h.ex
  have h1 := h.parts oPd_ok hL
  have h2 : (L.map fun c => oPd.stack (m.item c)).sum ≤ (L.map fun c => oP.stack (m.item c)).sum := sum_le_of fun c hc => by
    have := h.pos c (h.inL hL c hc)
    simp only [oPd, oP]
    omega
  have h3 : (ws.map (wkv oPd m ops)).sum ≤ (ws.map (wkv oP m ops)).sum := sum_le_of fun w hw => by
    have h4 : (w.todo.map oPd.todo).sum ≤ (w.todo.map oP.todo).sum := sum_le_of fun x hx => by
      have := (h.wok w hw).pos x hx
      simp only [oPd, oP]
      omega
    have h5 : ixv oPd m ops w.ix ≤ ixv oP m ops w.ix := by
      unfold ixv
      split
      · exact Int.le_refl _
      · rename_i i hi
        obtain ⟨o, s, hs, _⟩ := (h.wok w hw).op i hi
        rw [hs]
        dsimp only
        have hok := h.stk.okO _ (List.mem_of_getElem? hs)
        have hpc := h.stk.pc _ (List.mem_of_getElem? hs)
        dsimp only at hok hpc
        have hx : s.pc ≤ 3 → 1 ≤ m.item (s.at_.getD 0) := fun e => by
          obtain ⟨c, hc⟩ := hok.has (by omega)
          rw [hc]
          exact h.pos c (hok.at_ c hc)
        unfold opv
        simp only [oPd, oP]
        split
        · omega
        · split
          · have := hx (by omega)
            omega
          · split
            · have := hx (by omega)
              omega
            · split <;> omega
    unfold wkv
    simp only [oPd, oP] at h4 h5 ⊢
    omega
  unfold Tot at e1 e4
  omega
end

theorem stp_won {m : Mem Int} {s : OpS} (hf : s.fin = false) (hz : s.res = 0) (hr : (stp m s).2.1.res = 1) : s.pc = 5 ∧ m.top = s.at_ ∧ (stp m s).2.1.at_ = s.at_ := by
  obtain ⟨pc, at_, fin, res⟩ := s
  dsimp only at hf hz
  subst hf
  subst hz
  match pc with
  | 0 => simp [stp] at hr
  | 1 => simp [stp] at hr
  | 2 => simp [stp] at hr
  | 3 => by_cases h : m.top = m.below (at_.getD 0) <;> simp [stp, h] at hr
  | 4 => simp [stp] at hr
  | 5 =>
    by_cases h : m.top = at_
    · exact ⟨rfl, h, by simp [stp, h]⟩
    · simp [stp, h] at hr
  | 6 =>
    simp [stp] at hr
    split at hr <;> omega
  | n + 7 => simp [stp] at hr

def WsPost (w0 w : World) (g b9 q k : Nat) (qs : List Nat) (m : Mem Int) (ops : List (Nat × OpS)) (ws : List CW) (seen : List Int) (vs : Value) (e : Ending) (w' : World) : Prop :=
  (∃ v, e = .returned v) ∧ ∃ m' ops' ws' seen' vs', WStep m ops ws seen k m' ops' ws' seen' ∧ C1 w0 g b9 qs m' ops' ws' seen' vs' w' ∧ FmW w0.heap.size q b9 vs w w'

set_option maxRecDepth 100000 in
set_option maxHeartbeats 1000000 in
theorem wstep_any (w0 w : World) (g b9 q k : Nat) (qs : List Nat) (n p : Int) (m : Mem Int) (ops : List (Nat × OpS)) (ws : List CW) (seen : List Int) (vs : Value) (cw : CW) (hI : Inv n p m ops ws seen) (hC : C1 w0 g b9 qs m ops ws seen vs w) (hk : qs[k]? = some q) (hw : ws[k]? = some cw) (hn : n ≤ 1000) (hp : p ≤ 10000) :
    Calls Try.prog 16 #[.pointer (some ⟨q, 0, none⟩)] w (WsPost w0 w g b9 q k qs m ops ws seen vs) := by
  obtain ⟨hq, A, c, hm⟩ := hC.wk k q cw hk hw
  have hbk := hm.bk
  unfold wcells at hbk
  have cc := fun i => Bk.cell hbk i
  have ff := fun i => Bk.frozen hbk i
  have c1 := cc 1
  have c6 := cc 6
  clear cc ff hbk
  simp only [List.getElem?_toArray, List.getElem?_cons_zero, List.getElem?_cons_succ] at c1 c6
  have hwk := hI.wok cw (List.mem_of_getElem? hw)
  have hpd := hI.pd_le
  have hsl := hI.seen_le
  obtain ⟨ix, todo, having, ended⟩ := cw
  dsimp only at c1 c6
  replace hC := Lib.hid hC
  replace hm := Lib.hid hm
  replace hk := Lib.hid hk
  replace hw := Lib.hid hw
  replace hI := Lib.hid hI
  cases ended with
  | true =>
    go_enter Try.func16, Try.ntmps16
    go_wp2
    go_end0
    exact ⟨⟨_, rfl⟩, m, ops, ws, seen, vs, ⟨_, hw.out, .inl ⟨rfl, rfl, rfl, rfl, rfl⟩⟩, hC.out, FmW.refl _ _ _ _ _⟩
  | false =>
    cases ix with
    | none =>
      have h1 : opp ops none = .pointer none := rfl
      rw [h1] at c1
      go_enter Try.func16, Try.ntmps16
      go_wp2_with fail
      refine (wnext_any w0 w g b9 q m ops vs _ A c hC.out.en hm.out rfl hq).mono ?_
      rintro e w1 ⟨⟨v, rfl⟩, c1', o, A', c', hcn, E1, W1, F1⟩
      have hfin : Hid (∀ v, WsPost w0 w g b9 q k qs m ops ws seen vs (.returned v) w1) := Lib.hid fun v => by
        refine ⟨⟨v, rfl⟩, _, _, _, seen, vs, ⟨_, hw.out, .inr (.inl ⟨rfl, rfl, c1', o, hcn, rfl, rfl, rfl, rfl⟩)⟩, ?_, F1.wide _ _⟩
        refine hC.out.after hk.out hw.out (F1.wide _ _) E1 (F1.keep _ _ _ hC.out.x9 (Bk.ne hC.out.x9 hm.out.bk (by decide)) (by decide)) (F1.ow hC.out.own (by decide) hm.out.bk (by decide)) (.inl rfl) W1 fun j v hv => ?_
        have hop : ∀ i, v.ix = some i → ∃ a, ops[i]? = some a := fun i hi => by
          obtain ⟨o', s', h', _⟩ := (hI.out.wok v (List.mem_of_getElem? hv)).op i hi
          exact ⟨_, h'⟩
        unfold wnext
        split
        · exact opp_more _ hop
        · split
          · exact opp_more _ hop
          · exact opp_more _ hop
      clear E1 W1 F1 hcn
      go_wp2
      go_end0
      exact hfin.out _
    | some i =>
      obtain ⟨o, s, hi, hf, _⟩ := hwk.op i rfl
      have h1 : opp ops (some i) = .pointer (some ⟨o, 0, none⟩) := by simp [opp, hi, pv]
      rw [h1] at c1
      go_enter Try.func16, Try.ntmps16
      go_wp2_with fail
      refine (e_stepI w0 w g m ops hC.out.en i o s hi (by omega) (by omega)).mono ?_
      rintro e w1 ⟨rfl, E1, F1⟩
      have hmem := List.mem_of_getElem? hi
      have hz : s.res = 0 := (hI.out.stk.okO _ hmem).zero hf
      have hret := stp_ret m s
      have hwon := fun hr => stp_won (m := m) hf hz hr
      have hitem := (stp_cells m s).2
      have hi' : (ops.set i (o, (stp m s).2.1))[i]? = some (o, (stp m s).2.1) := List.getElem?_set_self (List.getElem?_eq_some_iff.1 hi).1
      have hop : ∀ (j : Nat) (v : CW), ws[j]? = some v → opp (ops.set i (o, (stp m s).2.1)) v.ix = opp ops v.ix := fun _ _ _ => opp_set hi
      have hown : opp (ops.set i (o, (stp m s).2.1)) (some i) = .pointer (some ⟨o, 0, none⟩) := by rw [opp_set hi]; exact h1
      have hWS : Hid (WStep m ops ws seen k (stp m s).1 (ops.set i (o, (stp m s).2.1)) (ws.set k (wfin (stp m s).1 ⟨some i, todo, having, false⟩ (stp m s).2.1 seen).1) (wfin (stp m s).1 ⟨some i, todo, having, false⟩ (stp m s).2.1 seen).2) := Lib.hid ⟨_, hw.out, .inr (.inr ⟨rfl, i, o, s, rfl, hi, rfl, rfl, rfl, rfl⟩)⟩
      have htl : Hid ((stp m s).2.1.res = 1 → having = false ∧ todo = [] ∧ ∃ d, (stp m s).2.1.at_ = some d ∧ 1 ≤ (stp m s).1.item d ∧ (stp m s).1.item d ≤ n) := Lib.hid fun hr => by
        obtain ⟨e5, et, ea⟩ := hwon hr
        obtain ⟨o', s0, hi0, _, _, hid⟩ := hwk.op i rfl
        rw [hi] at hi0
        obtain ⟨rfl, rfl⟩ : o = o' ∧ s = s0 := by simpa using hi0
        obtain ⟨q1, q2⟩ := hid (by omega)
        obtain ⟨d, hd⟩ := (hI.out.stk.okO _ hmem).has (by dsimp only; omega)
        dsimp only at hd
        refine ⟨q1, q2, d, by rw [ea]; exact hd, ?_, ?_⟩
        · rw [hitem]
          exact hI.out.pos d ((hI.out.stk.okO _ hmem).at_ d hd)
        · rw [hitem]
          exact hI.out.top_le (et.trans hd)
      clear hwon hitem
      generalize (stp m s).1 = m' at *
      generalize (stp m s).2.1 = s' at *
      generalize (stp m s).2.2 = b3 at *
      subst hret
      generalize ops.set i (o, s') = ops' at *
      have hb1 : Bk w1 q 45 (wcells g b9 (.pointer (some ⟨o, 0, none⟩)) A todo.length c having false) := by
        have := F1.bk hm.out.bk (by decide)
        dsimp only at this
        rw [h1] at this
        exact this
      have fw1 : FmQ w0.heap.size q w w1 := FmQ.fm F1 (below_of hC.out.en.bel E1.bel F1.size)
      have t1 : TodoM w1 vs A todo := hm.out.todo.keep F1.size (fun b cs hb _ => F1.bk hb (by decide)) (.inl rfl)
      have d1 : w1.cell? ⟨q, 1, none⟩ = some (.pointer (some ⟨o, 0, none⟩)) := hb1.cell 1
      replace hi' := Lib.hid hi'
      replace hop := Lib.hid hop
      replace hown := Lib.hid hown
      replace E1 := Lib.hid E1
      replace hb1 := Lib.hid hb1
      replace fw1 := Lib.hid fw1
      replace t1 := Lib.hid t1
      clear F1 c1 c6 h1 hi hf hz hmem
      cases hfin : s'.fin with
      | false =>
        have hwf : wfin m' ⟨some i, todo, having, false⟩ s' seen = (⟨some i, todo, having, false⟩, seen) := by simp [wfin, hfin]
        have HF : Hid (∀ v, WsPost w0 w g b9 q k qs m ops ws seen vs (.returned v) w1) := Lib.hid fun v => by
          have hws := hWS.out
          rw [hwf] at hws
          refine ⟨⟨v, rfl⟩, m', ops', _, seen, vs, hws, ?_, fw1.out.wide _ _⟩
          refine hC.out.after hk.out hw.out (fw1.out.wide _ _) E1.out (fw1.out.keep _ _ _ hC.out.x9 (Bk.ne hC.out.x9 hm.out.bk (by decide)) (by decide)) (fw1.out.ow hC.out.own (by decide) hm.out.bk (by decide)) (.inl rfl) ⟨?_, hm.out.cap, hm.out.max, t1.out⟩ hop.out
          dsimp only
          rw [hown.out]
          exact hb1.out
        clear hwf
        go_wp2
        go_end0
        exact HF.out _
      | true =>
        go_wp2_with fail
        refine (e_showI w0 w1 g m' ops' E1.out i o s' hi'.out).mono ?_
        rintro e w2 ⟨rfl, E2, F2⟩
        have hb2 : Bk w2 q 45 (wcells g b9 (.pointer (some ⟨o, 0, none⟩)) A todo.length c having false) := F2.bk hb1.out (by decide)
        have fw2 : FmQ w0.heap.size q w w2 := fw1.out.trans (FmQ.fm F2 (below_of E1.out.bel E2.bel F2.size))
        have t2 : TodoM w2 vs A todo := t1.out.keep F2.size (fun b cs hb _ => F2.bk hb (by decide)) (.inl rfl)
        have hres : resOf s' = s'.res := by simp [resOf, hfin]
        rw [hres]
        unfold evI
        clear F2 hres hb1 fw1 t1 E1 d1
        have k1 : w2.cell? ⟨q, 1, none⟩ = some (.pointer (some ⟨o, 0, none⟩)) := hb2.cell 1
        have k3 : w2.cell? ⟨q, 3, none⟩ = some (.bool having) := hb2.cell 3
        have k6 : w2.cell? ⟨q, 6, none⟩ = some (.bool false) := hb2.cell 6
        have l1 := hb2.frozen 1
        have l3 := hb2.frozen 3
        have l6 := hb2.frozen 6
        have hb3 : Bk (w2.setCell ⟨q, 1, none⟩ (.pointer none)) q 45 (wcells g b9 (.pointer none) A todo.length c having false) := hb2.put 1 (.pointer none)
        have fw3 : FmQ w0.heap.size q w (w2.setCell ⟨q, 1, none⟩ (.pointer none)) := fw2.set 1 _ hq
        have E3 : EnI w0 (w2.setCell ⟨q, 1, none⟩ (.pointer none)) g m' ops' := E2.setW hb2 hq 1 _
        have t3 : TodoM (w2.setCell ⟨q, 1, none⟩ (.pointer none)) vs A todo := t2.set hb2 1 _
        have x93 : Boxed (w2.setCell ⟨q, 1, none⟩ (.pointer none)) b9 34 vs := fw3.keep _ _ _ hC.out.x9 (Bk.ne hC.out.x9 hm.out.bk (by decide)) (by decide)
        have O3 : Ow (w2.setCell ⟨q, 1, none⟩ (.pointer none)) w0.heap.size 3 vs (seen.map (Value.int .i64)) := fw3.ow hC.out.own (by decide) hm.out.bk (by decide)
        by_cases hr1 : s'.res = 1
        · obtain ⟨rfl, rfl, d, hd, hx1, hx2⟩ := htl.out hr1
          have hgot : gotOfI m' s' = m'.item d := by simp [gotOfI, hfin, hr1, hd]
          have hwf : wfin m' ⟨some i, [], false, false⟩ s' seen = (⟨none, if 1 < m'.item d then [m'.item d / 2, m'.item d - m'.item d / 2] else [], true, false⟩, seen ++ [m'.item d]) := by simp [wfin, hfin, hr1, hd]
          have hws := hWS.out
          rw [hwf] at hws
          rw [hgot, hr1]
          generalize m'.item d = x at *
          have hb4 : Bk ((w2.setCell ⟨q, 1, none⟩ (.pointer none)).setCell ⟨q, 3, none⟩ (.bool true)) q 45 (wcells g b9 (.pointer none) A 0 c true false) := hb3.put 3 (.bool true)
          have fw4 := fw3.set 3 (.bool true) hq
          have E4 := E3.setW hb3 hq 3 (.bool true)
          have x94 : Boxed ((w2.setCell ⟨q, 1, none⟩ (.pointer none)).setCell ⟨q, 3, none⟩ (.bool true)) b9 34 vs := fw4.keep _ _ _ hC.out.x9 (Bk.ne hC.out.x9 hm.out.bk (by decide)) (by decide)
          have O4 : Ow ((w2.setCell ⟨q, 1, none⟩ (.pointer none)).setCell ⟨q, 3, none⟩ (.bool true)) w0.heap.size 3 vs (seen.map (Value.int .i64)) := fw4.ow hC.out.own (by decide) hm.out.bk (by decide)
          have HWS := Lib.hid hws
          clear hwf hws hb3 fw3 E3 t3 x93 O3 hb2 fw2 t2 E2 htl hWS hgot
          go_wp2
          clear k1 k3 k6 l1 l3 l6
          generalize (w2.setCell ⟨q, 1, none⟩ (.pointer none)).setCell ⟨q, 3, none⟩ (.bool true) = w4 at *
          obtain ⟨As, cs, hvs⟩ := rw_form O4
          rw [List.length_map] at hvs
          have k4 : w4.cell? ⟨q, 4, none⟩ = some (.pointer (some ⟨b9, 0, none⟩)) := hb4.cell 4
          have k9 : w4.cell? ⟨b9, 0, none⟩ = some (.slice As seen.length cs) := by rw [← hvs]; exact x94.cell
          have lq : q < w4.heap.size := Bk.lt hb4
          have l9 : b9 < w4.heap.size := Bk.lt x94
          have hsz4 : w0.heap.size ≤ w4.heap.size := E4.bel.size
          have hsl' : seen.length ≤ 10000 := by omega
          have HO : Hid (∀ o : Obj, ((w4.alloc o).drew).ownsRow w0.heap.size 3 1 (.slice As seen.length cs) (seen.map (Value.int .i64)).length (seen.map (Value.int .i64))) := Lib.hid fun o => by rw [← hvs]; exact (World.ownsRow.alloc O4 o).drew
          have HSN : Hid (∀ (o : Obj) (vs' : Value) (w5 : World), w5.ownsRow w0.heap.size 3 1 vs' (seen.map (Value.int .i64) ++ [Value.int .i64 x]).length (seen.map (Value.int .i64) ++ [Value.int .i64 x]) → ((w4.alloc o).drew).grownBy w5 (Value.slice As seen.length cs).ownBlock → (vs'.ownBlock = (Value.slice As seen.length cs).ownBlock ∨ vs'.ownBlock = some ((w4.alloc o).drew).heap.size) →
              w5.cell? ⟨b9, 0, none⟩ = some (.slice As seen.length cs) ∧ w5.frozen? ⟨b9, 0, none⟩ = false ∧ w5.cell? ⟨q, 4, none⟩ = some (.pointer (some ⟨b9, 0, none⟩)) ∧ (∃ A c, vs' = .slice A (seen.length + 1) c) ∧ Hid (Sn w0 g b9 q m' ops' (wcells g b9 (.pointer none) A 0 c true false) vs vs' (seen ++ [x]) w4 (w5.setCell ⟨b9, 0, none⟩ vs'))) := Lib.hid fun o vs' w5 h1 h2 h3 => by
            rw [← hvs] at h2 h3
            obtain ⟨q1, q0, q2, q3⟩ := sn_grow E4 x94 O4 hb4 hC.out.hb9 h1 h2 h3
            refine ⟨?_, q1.frozen, q0.cell 4, q2, Lib.hid q3⟩
            rw [← hvs]
            exact q1.cell
          replace hb4 := Lib.hid hb4
          replace fw4 := Lib.hid fw4
          replace E4 := Lib.hid E4
          replace x94 := Lib.hid x94
          replace O4 := Lib.hid O4
          replace hvs := Lib.hid hvs
          go_cut [] (fun wx => ∃ vs', Hid (Sn w0 g b9 q m' ops' (wcells g b9 (.pointer none) A 0 c true false) vs vs' (seen ++ [x]) w4 wx))
          case first =>
            go_region_law (refine step_app Try.intsz (by rfl) _ _ (by rfl) w0.heap.size (.slice As seen.length cs) (seen.map (Value.int .i64)) (by rfl) (HO.out _) (w4.heap.size + 1) (some ⟨w4.heap.size, 0, none⟩) 1 1 [.int .i64 x] (by rfl) (by rfl) (fun j u hj => ⟨_, rfl, by simp, cell_one_new _ _ _ j u hj⟩) (by simp [Value.oneCell']) (by rw [List.length_map]; unfold maxLen; omega) (by rw [List.length_map]; omega) (by simp; omega) ?_; intro vs' w5 hown' hgrow hob; obtain ⟨e9, ef9, e4, ⟨A5, c5, hv5⟩, hsn⟩ := HSN.out _ _ _ hown' hgrow hob; subst hv5)
            all_goals (go_wp2_with fail; go_meet; exact ⟨_, hsn⟩)
          case rest =>
            obtain ⟨vs', hsn⟩ := hcut
            clear HSN HO k4 k9 lq l9
            have hbx := hsn.out.bk
            have k2 : wc.cell? ⟨q, 2, none⟩ = some (.slice A 0 c) := hbx.cell 2
            have l2 := hbx.frozen 2
            have hszx : w4.heap.size ≤ wc.heap.size := hsn.out.fm.bel.size
            have lqx : q < wc.heap.size := Bk.lt hbx
            have hszw : w.heap.size ≤ w4.heap.size := fw4.out.bel.size
            have fwx : FmW w0.heap.size q b9 vs w wc := (fw4.out.wide _ _).trans hsn.out.fm
            have hox : vs'.ownBlock = vs.ownBlock ∨ ∀ b, vs'.ownBlock = some b → w.heap.size ≤ b := hsn.out.ho.imp id fun h b e => Nat.le_trans hszw (h b e)
            have HFW := Lib.hid fwx
            have HOX := Lib.hid hox
            replace hbx := Lib.hid hbx
            clear fwx hox
            have hxn : x ≤ 1000 := by omega
            have hmc := hm.out.cap
            have hmm := hm.out.max
            by_cases hx : 1 < x
            · rw [if_pos hx] at HWS
              have HF : Hid (∀ v, WsPost w0 w g b9 q k qs m ops ws seen vs (.returned v) ((wc.alloc (.cells #[.int .i64 (x / 2), .int .i64 (x - x / 2)] 3)).setCell ⟨q, 2, none⟩ (.slice (some ⟨wc.heap.size, 0, none⟩) 2 2))) := Lib.hid fun v => by
                have hba := hbx.out.alloc (.cells #[.int .i64 (x / 2), .int .i64 (x - x / 2)] 3)
                have hnew := Bk.made wc 3 #[.int .i64 (x / 2), .int .i64 (x - x / 2)]
                have hB : w0.heap.size ≤ wc.heap.size := by omega
                have fa := (HFW.out.alloc hB (.cells #[.int .i64 (x / 2), .int .i64 (x - x / 2)] 3)).set 2 (.slice (some ⟨wc.heap.size, 0, none⟩) 2 2) hq
                have hne9 : q ≠ b9 := Bk.ne hbx.out hsn.out.x9 (by decide)
                have hset : ∀ b, b ≠ q → ((wc.alloc (.cells #[.int .i64 (x / 2), .int .i64 (x - x / 2)] 3)).setCell ⟨q, 2, none⟩ (.slice (some ⟨wc.heap.size, 0, none⟩) 2 2)).heap[b]? = (wc.alloc (.cells #[.int .i64 (x / 2), .int .i64 (x - x / 2)] 3)).heap[b]? := fun b hb => Below.heap_setCell _ _ _ b hb
                have hO := (hsn.out.own.alloc (.cells #[.int .i64 (x / 2), .int .i64 (x - x / 2)] 3))
                refine ⟨⟨v, rfl⟩, m', ops', _, _, vs', HWS.out, ?_, fa⟩
                refine hC.out.after (A' := some ⟨wc.heap.size, 0, none⟩) (c' := 2) hk.out hw.out fa ((hsn.out.en.grow ((Below.refl _ _).alloc (Nat.le_refl _) _)).setW hba hq 2 _) ((hset b9 (Ne.symm hne9)).trans (hsn.out.x9.alloc _)) (hO.keep fun b e => hset b fun e' => hO.ne hba (by decide) (e' ▸ e)) HOX.out ⟨hba.put 2 _, Nat.le_refl _, by unfold maxLen; omega, ?_⟩ hop.out
                have hnew' : Bk ((wc.alloc (.cells #[.int .i64 (x / 2), .int .i64 (x - x / 2)] 3)).setCell ⟨q, 2, none⟩ (.slice (some ⟨wc.heap.size, 0, none⟩) 2 2)) wc.heap.size 3 #[.int .i64 (x / 2), .int .i64 (x - x / 2)] := (hset _ (fun e => by omega)).trans hnew
                refine ⟨hnew'.sees (by simp), fun _ => ⟨_, _, rfl, hnew', fun e => ?_⟩⟩
                have := (hsn.out.own.lt _ e).2
                simp at this
              rw [World.setCell_alloc_past _ q 2 _ lqx] at HF
              clear hsn HWS
              go_wp2
              go_end0
              exact HF.out _
            · rw [if_neg hx] at HWS
              have HF : Hid (∀ v, WsPost w0 w g b9 q k qs m ops ws seen vs (.returned v) wc) := Lib.hid fun v => by
                refine ⟨⟨v, rfl⟩, m', ops', _, _, vs', HWS.out, ?_, HFW.out⟩
                exact hC.out.after (A' := A) (c' := c) hk.out hw.out HFW.out hsn.out.en hsn.out.x9 hsn.out.own HOX.out ⟨hbx.out, hmc, hmm, ⟨Sees.nil, fun e => absurd rfl e⟩⟩ hop.out
              clear hsn HWS
              go_wp2
              go_end0
              exact HF.out _
        · have e1 : (s'.res == 1) = false := by simpa using hr1
          by_cases hr3 : s'.res = 3
          · have hwf : wfin m' ⟨some i, todo, having, false⟩ s' seen = (⟨none, todo, having, true⟩, seen) := by simp [wfin, hfin, hr3]
            have HF : Hid (∀ v, WsPost w0 w g b9 q k qs m ops ws seen vs (.returned v) ((w2.setCell ⟨q, 1, none⟩ (.pointer none)).setCell ⟨q, 6, none⟩ (.bool true))) := Lib.hid fun v => by
              have hws := hWS.out
              rw [hwf] at hws
              have fw4 := fw3.set 6 (.bool true) hq
              refine ⟨⟨v, rfl⟩, m', ops', _, seen, vs, hws, ?_, fw4.wide _ _⟩
              exact hC.out.after hk.out hw.out (fw4.wide _ _) (E3.setW hb3 hq 6 _) (fw4.keep _ _ _ hC.out.x9 (Bk.ne hC.out.x9 hm.out.bk (by decide)) (by decide)) (fw4.ow hC.out.own (by decide) hm.out.bk (by decide)) (.inl rfl) ⟨hb3.put 6 (.bool true), hm.out.cap, hm.out.max, t3.set hb3 6 _⟩ hop.out
            rw [hr3]
            clear hwf hb3 fw3 E3 t3 x93 O3 hb2 fw2 t2 E2
            generalize gotOfI m' s' = gx at *
            go_wp2
            go_end0
            exact HF.out _
          · have e3 : (s'.res == 3) = false := by simpa using hr3
            have hwf : wfin m' ⟨some i, todo, having, false⟩ s' seen = (⟨none, todo, having, false⟩, seen) := by simp [wfin, hfin, hr1, hr3]
            have HF : Hid (∀ v, WsPost w0 w g b9 q k qs m ops ws seen vs (.returned v) (w2.setCell ⟨q, 1, none⟩ (.pointer none))) := Lib.hid fun v => by
              have hws := hWS.out
              rw [hwf] at hws
              refine ⟨⟨v, rfl⟩, m', ops', _, seen, vs, hws, ?_, fw3.wide _ _⟩
              exact hC.out.after hk.out hw.out (fw3.wide _ _) E3 x93 O3 (.inl rfl) ⟨hb3, hm.out.cap, hm.out.max, t3⟩ hop.out
            clear hwf hb3 fw3 E3 t3 x93 O3 hb2 fw2 t2 E2
            generalize gotOfI m' s' = gx at *
            generalize s'.res = rx at *
            go_wp2
            go_end0
            exact HF.out _

end Go.Proofs.Ytokdalilnckkoaa
