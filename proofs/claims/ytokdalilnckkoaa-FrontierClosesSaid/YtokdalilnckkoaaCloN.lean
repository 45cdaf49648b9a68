/- FrontierCloses: a worker begins its next operation: walked. -/
import Derived.Test.YtokdalilnckkoaaCloM
import Derived.StillTailTactics
import Derived.Deep.RegionHeld3
import Derived.Deep.DeepCutAuto
namespace Go.Proofs.Ytokdalilnckkoaa
open Go.RowKit Go.Shelf

attribute [local go_sem] Oper.semAt_some

def NxPost (w0 w : World) (g b9 q : Nat) (m : Mem Int) (ops : List (Nat × OpS)) (vs : Value) (cw : CW) (e : Ending) (w' : World) : Prop :=
  (∃ v, e = .returned v) ∧ ∃ c1 o A' c', c1 ∉ m.cells ∧ EnI w0 w' g (wnext m ops c1 o cw).1 (wnext m ops c1 o cw).2.1 ∧ WkM w' g b9 (wnext m ops c1 o cw).2.1 vs q (wnext m ops c1 o cw).2.2 A' c' ∧ FmQ w0.heap.size q w w'

theorem EnI.setW {w0 w : World} {g : Nat} {m : Mem Int} {ops : List (Nat × OpS)} {q : Nat} {cs : Array Value} (h : EnI w0 w g m ops) (hb : Bk w q 45 cs) (hB : w0.heap.size ≤ q) (i : Nat) (x : Value) : EnI w0 (w.setCell ⟨q, i, none⟩ x) g m ops :=
  h.own hb (by decide) hB ((Ch.refl _ _).set (by simp) _)
theorem TodoM.set {w : World} {vs : Value} {A : Option Addr} {todo : List Int} {q : Nat} {cs : Array Value} (h : TodoM w vs A todo) (hb : Bk w q 45 cs) (i : Nat) (x : Value) : TodoM (w.setCell ⟨q, i, none⟩ x) vs A todo :=
  h.keep (by simp) (fun b cs' hb' _ => Bk.other hb' (Bk.ne hb' hb (by decide)) _) (.inl rfl)
theorem opp_new (ops : List (Nat × OpS)) (p : Nat × OpS) : opp (ops ++ [p]) (some ops.length) = .pointer (some ⟨p.1, 0, none⟩) := by simp [opp, pv]
theorem TodoM.tail {w : World} {vs : Value} {A : Option Addr} {x : Int} {r : List Int} {c : Nat} (h : TodoM w vs A (x :: r)) (hc : (x :: r).length ≤ c) : TodoM w vs (if c = 1 then A else A.map (·.add 1)) r := by
  have h1 := h.see.tail (k := 1) (cap := c) (by simpa using hc)
  refine ⟨by simpa using h1, fun hr => ?_⟩
  obtain ⟨ad, cs, rfl, hb, hne⟩ := h.at_ (by simp)
  have : c ≠ 1 := by
    cases r with
    | nil => exact absurd rfl hr
    | cons y r => simp at hc; omega
  rw [if_neg this]
  exact ⟨ad.add 1, cs, rfl, by rw [add_blk]; exact hb, by rw [add_blk]; exact hne⟩

theorem below_of {B : Nat} {a w w' : World} (h : Below B a w) (h' : Below B a w') (hs : w.heap.size ≤ w'.heap.size) : Below B w w' :=
  ⟨h'.os.trans h.os.symm, h'.tape.trans h.tape.symm, h'.output.trans h.output.symm, hs, fun b hb => (h'.block b hb).trans (h.block b hb).symm⟩

theorem nx_push {w0 w w2 : World} {g b9 q : Nat} {m : Mem Int} {ops : List (Nat × OpS)} {vs v : Value} {x : Int} {r : List Int} {having ended : Bool} {A A' : Option Addr} {c c' : Nat} (hm : WkM w g b9 ops vs q ⟨none, x :: r, having, ended⟩ A c) (hc : w.heap.size ∉ m.cells) (E2 : EnI w0 w2 g (addCell m w.heap.size x) (ops ++ [(w.heap.size + 1, opPush w.heap.size)]))
    (hb2 : Bk w2 q 45 ((wcells g b9 (opp ops none) A (x :: r).length c having ended).setIfInBounds 1 (.pointer (some ⟨w.heap.size + 1, 0, none⟩)))) (t2 : TodoM w2 vs A (x :: r)) (fw : FmQ w0.heap.size q w w2) (hq : w0.heap.size ≤ q) (hA : A' = if c = 1 then A else A.map (·.add 1)) (hc' : c' = c - 1) :
    NxPost w0 w g b9 q m ops vs ⟨none, x :: r, having, ended⟩ (.returned v) (w2.setCell ⟨q, 2, none⟩ (.slice A' r.length c')) := by
  have hcap := hm.cap
  have hmax := hm.max
  dsimp only [List.length_cons] at hcap
  refine ⟨⟨v, rfl⟩, w.heap.size, w.heap.size + 1, A', c', hc, E2.setW hb2 hq 2 _, ⟨?_, ?_, ?_, ?_⟩, fw.set 2 _ hq⟩
  · have h := hb2.put 2 (.slice A' r.length c')
    have e : opp (wnext m ops w.heap.size (w.heap.size + 1) ⟨none, x :: r, having, ended⟩).2.1 (wnext m ops w.heap.size (w.heap.size + 1) ⟨none, x :: r, having, ended⟩).2.2.ix = .pointer (some ⟨w.heap.size + 1, 0, none⟩) := opp_new ops _
    rw [e]
    exact h
  · show r.length ≤ c'
    omega
  · omega
  · have := (t2.tail (c := c) (by simpa using hcap)).set hb2 2 (.slice A' r.length c')
    rw [← hA] at this
    exact this

set_option maxRecDepth 100000 in
set_option maxHeartbeats 1000000 in
theorem wnext_any (w0 w : World) (g b9 q : Nat) (m : Mem Int) (ops : List (Nat × OpS)) (vs : Value) (cw : CW) (A : Option Addr) (c : Nat) (hE : EnI w0 w g m ops) (hm : WkM w g b9 ops vs q cw A c) (hix : cw.ix = none) (hq : w0.heap.size ≤ q) :
    Calls Try.prog 38 #[.pointer (some ⟨q, 0, none⟩)] w (NxPost w0 w g b9 q m ops vs cw) := by
  have hbk := hm.bk
  unfold wcells at hbk
  have cc := fun i => Bk.cell hbk i
  have ff := fun i => Bk.frozen hbk i
  have c0 := cc 0
  have c1 := cc 1
  have c2 := cc 2
  have c3 := cc 3
  have f1 := ff 1
  have f2 := ff 2
  have f3 := ff 3
  clear cc ff hbk
  have hmx := hm.max
  unfold maxLen at hmx
  have hcap := hm.cap
  obtain ⟨ix, todo, having, ended⟩ := cw
  dsimp only at hix
  subst hix
  have hcells : w.heap.size ∉ m.cells := fun hc => Nat.lt_irrefl _ (Bk.lt (hE.rel.cell _ hc))
  replace hcells := Lib.hid hcells
  replace hE := Lib.hid hE
  replace hm := Lib.hid hm
  simp only [List.getElem?_toArray, List.getElem?_cons_zero, List.getElem?_cons_succ] at c0 c1 c2 c3
  cases todo with
  | cons x r =>
    obtain ⟨ad, cs, hA, hb, hne⟩ := hm.out.todo.at_ (by simp)
    subst hA
    obtain ⟨ad', e, _, hx⟩ := hm.out.todo.see 0 (.int .i64 x) rfl
    injection e with e
    subst e
    have hx0 : w.cell? ad = some (.int .i64 x) := by
      have : ad.add 0 = ad := by simp [Addr.add]
      rw [this] at hx
      exact hx
    clear hx hb hne
    dsimp only [List.length_cons] at hcap c2
    have hEd : EnI w0 w.drew g m ops := hE.out.still ⟨rfl, rfl, rfl, rfl, fun _ _ => rfl⟩
    obtain ⟨ad', cs, e, hb, _⟩ := hm.out.todo.at_ (by simp)
    injection e with e
    subst e
    have HPU : Hid (Calls Try.prog 9 #[.pointer (some ⟨g, 0, none⟩), .int .i64 x] w.drew fun e w' => e = .returned (.pointer (some ⟨w.heap.size + 1, 0, none⟩)) ∧ Hid (EnI w0 w' g (addCell m w.heap.size x) (ops ++ [(w.heap.size + 1, opPush w.heap.size)])) ∧ Hid (FmI w w') ∧
        w'.cell? ⟨q, 0, none⟩ = some (.pointer (some ⟨g, 0, none⟩)) ∧ w'.cell? ⟨q, 2, none⟩ = some (.slice (some ad) (r.length + 1) c) ∧ w'.cell? ad = some (.int .i64 x) ∧ w'.cell? ⟨q, 1, none⟩ = some (opp ops none) ∧ w'.frozen? ⟨q, 1, none⟩ = false ∧ w'.frozen? ⟨q, 2, none⟩ = false) := by
      refine Lib.hid ((e_pushI w0 w.drew g m ops hEd x).mono ?_)
      rintro e w' ⟨rfl, E1, F1⟩
      have F1' : FmI w w' := ⟨F1.size, F1.keep⟩
      have hb1 := F1'.bk hm.out.bk (by decide)
      have hb2 := F1'.bk hb (by decide)
      exact ⟨rfl, Lib.hid E1, Lib.hid F1', hb1.cell 0, hb1.cell 2, (World.cell?_of_block (hb2.trans (Eq.symm hb))).trans hx0, hb1.cell 1, hb1.frozen 1, hb1.frozen 2⟩
    have hadq : ad.block ≠ q := Bk.ne hb hm.out.bk (by decide)
    have HK : Hid (∀ (W : World) (v : Value), W.cell? ⟨q, 0, none⟩ = some (.pointer (some ⟨g, 0, none⟩)) ∧ W.cell? ⟨q, 2, none⟩ = some (.slice (some ad) (r.length + 1) c) ∧ W.cell? ad = some (.int .i64 x) → (W.setCell ⟨q, 1, none⟩ v).cell? ⟨q, 0, none⟩ = some (.pointer (some ⟨g, 0, none⟩)) ∧ (W.setCell ⟨q, 1, none⟩ v).cell? ⟨q, 2, none⟩ = some (.slice (some ad) (r.length + 1) c) ∧ (W.setCell ⟨q, 1, none⟩ v).cell? ad = some (.int .i64 x)) :=
      Lib.hid fun W v h => ⟨(World.cell?_setCell_other W _ _ v (by simp)).trans h.1, (World.cell?_setCell_other W _ _ v (by simp)).trans h.2.1, (World.cell?_setCell_other W _ _ v (fun e => hadq (by rw [← e]))).trans h.2.2⟩
    clear hEd hb hadq
    go_enter Try.func38, Try.ntmps38
    go_wp2
    go_cut [] (fun wx => ∃ w1, Hid (EnI w0 w1 g (addCell m w.heap.size x) (ops ++ [(w.heap.size + 1, opPush w.heap.size)])) ∧ Hid (FmI w w1) ∧ wx = w1.setCell ⟨q, 1, none⟩ (.pointer (some ⟨w.heap.size + 1, 0, none⟩)))
    case first =>
      go_region_held3 (fun W => W.cell? ⟨q, 0, none⟩ = some (.pointer (some ⟨g, 0, none⟩)) ∧ W.cell? ⟨q, 2, none⟩ = some (.slice (some ad) (r.length + 1) c) ∧ W.cell? ad = some (.int .i64 x)) (first | go_keep | exact HK.out _ _ ⟨k0, k2, kx⟩ | exact ⟨k0, k2, kx⟩)
        (first | (go_at_call 9; refine HPU.out.mono ?_; rintro e w1 ⟨rfl, E1, F1, k0, k2, kx, k1, kf1, kf2⟩))
      go_wp2_with fail
      go_meet
      exact ⟨w1, E1, F1, rfl⟩
    case rest =>
      obtain ⟨w1, E1, F1, rfl⟩ := hcut
      have hb1 := F1.out.bk hm.out.bk (by decide)
      have hb2 := hb1.put 1 (.pointer (some ⟨w.heap.size + 1, 0, none⟩))
      have d2 : (w1.setCell ⟨q, 1, none⟩ (.pointer (some ⟨w.heap.size + 1, 0, none⟩))).cell? ⟨q, 2, none⟩ = some (.slice (some ad) (r.length + 1) c) := by rw [hb2.cell]; rfl
      have g2 := hb2.frozen 2
      have t1 : TodoM w1 vs (some ad) (x :: r) := hm.out.todo.keep F1.out.size (fun b cs hb _ => F1.out.bk hb (by decide)) (.inl rfl)
      have E2 := (E1.out.setW hb1 hq 1 (.pointer (some ⟨w.heap.size + 1, 0, none⟩)))
      have t2 := t1.set hb1 1 (.pointer (some ⟨w.heap.size + 1, 0, none⟩))
      have fw : FmQ w0.heap.size q w (w1.setCell ⟨q, 1, none⟩ (.pointer (some ⟨w.heap.size + 1, 0, none⟩))) := (FmQ.fm F1.out (below_of hE.out.bel E1.out.bel F1.out.size)).set 1 _ hq
      generalize w1.setCell ⟨q, 1, none⟩ (.pointer (some ⟨w.heap.size + 1, 0, none⟩)) = w2 at *
      replace hb2 := Lib.hid hb2
      replace t2 := Lib.hid t2
      replace E2 := Lib.hid E2
      replace fw := Lib.hid fw
      clear hb1 c0 c1 c2 c3 f1 f2 f3 hx0 HPU t1 E1 F1
      by_cases hc1 : c = 1
      · subst hc1
        go_wp2
        go_end0
        have hr0 : r = [] := List.length_eq_zero_iff.1 (by omega)
        subst hr0
        exact nx_push hm.out hcells.out E2.out hb2.out t2.out fw.out hq (by simp) rfl
      · go_wp2
        go_end0
        exact nx_push hm.out hcells.out E2.out hb2.out t2.out fw.out hq (by rw [if_neg hc1]; rfl) rfl
  | nil =>
    have lq : q < w.heap.size := Bk.lt hm.out.bk
    have hcap0 := hcap
    dsimp only [List.length_nil] at c2
    have key : ∀ (hv : Bool) (s : OpS) (o : Nat) (w1 : World) (v : Value), (∀ c1, wnext m ops c1 o ⟨none, [], hv, ended⟩ = (m, ops ++ [(o, s)], ⟨some ops.length, [], false, ended⟩)) → EnI w0 w1 g m (ops ++ [(o, s)]) → Bk w1 q 45 (wcells g b9 (opp ops none) A 0 c false ended) → FmQ w0.heap.size q w w1 →
        NxPost w0 w g b9 q m ops vs ⟨none, [], hv, ended⟩ (.returned v) (w1.setCell ⟨q, 1, none⟩ (.pointer (some ⟨o, 0, none⟩))) := by
      intro hv s o w1 v he hE1 hb1 hfw
      have hmx' := hm.out.max
      refine ⟨⟨v, rfl⟩, w.heap.size, o, A, c, hcells.out, ?_⟩
      rw [he]
      refine ⟨hE1.setW hb1 hq 1 _, ⟨?_, Nat.zero_le _, hmx', ⟨Sees.nil, fun e => absurd rfl e⟩⟩, hfw.set 1 _ hq⟩
      dsimp only
      rw [opp_new]
      exact hb1.put 1 _
    replace key := Lib.hid key
    cases having with
    | true =>
      have hbA := hm.out.bk.put 3 (.bool false)
      have EA := hE.out.setW hm.out.bk hq 3 (.bool false)
      have FA : FmQ w0.heap.size q w (w.setCell ⟨q, 3, none⟩ (.bool false)) := (FmQ.refl _ _ _).set 3 _ hq
      have HA := Lib.hid hbA
      have HEA := Lib.hid EA
      have HFA := Lib.hid FA
      clear hbA EA FA
      go_enter Try.func38, Try.ntmps38
      go_wp2_with fail
      refine (e_doneI w0 _ g m ops HEA.out).mono ?_
      rintro e w1 ⟨rfl, E1, F1⟩
      have hb1 := F1.bk HA.out (by decide)
      have d1 := (hb1.cell 1 : w1.cell? ⟨q, 1, none⟩ = some (opp ops none))
      have g1 := hb1.frozen 1
      have fw := Lib.hid (HFA.out.trans (FmQ.fm F1 (below_of HEA.out.bel E1.bel F1.size)))
      replace E1 := Lib.hid E1
      replace hb1 := Lib.hid hb1
      clear c0 c1 c2 c3 f1 f2 f3 F1 HA HEA HFA
      generalize (w.setCell ⟨q, 3, none⟩ (.bool false)).heap.size = o at *
      go_wp2
      go_end0
      exact key.out true opDone o w1 _ (fun _ => rfl) E1.out hb1.out fw.out
    | false =>
      go_enter Try.func38, Try.ntmps38
      go_wp2_with fail
      refine (e_takeI w0 w g m ops hE.out).mono ?_
      rintro e w1 ⟨rfl, E1, F1⟩
      have hb1 := F1.bk hm.out.bk (by decide)
      have d1 := (hb1.cell 1 : w1.cell? ⟨q, 1, none⟩ = some (opp ops none))
      have g1 := hb1.frozen 1
      have fw : Hid (FmQ w0.heap.size q w w1) := Lib.hid (FmQ.fm F1 (below_of hE.out.bel E1.bel F1.size))
      replace E1 := Lib.hid E1
      replace hb1 := Lib.hid hb1
      clear c0 c1 c2 c3 f1 f2 f3 F1
      go_wp2
      go_end0
      exact key.out false opTake w.heap.size w1 _ (fun _ => rfl) E1.out hb1.out fw.out

end Go.Proofs.Ytokdalilnckkoaa
