/- All and its iterator. -/
import Derived.Test.YtokdalilnckkoaaMake
import Derived.RangeFuncNested
import Derived.RangeFuncBound
import Derived.RangeFuncCalls
import Derived.RangeFuncLeaves
import Derived.Shelf.Abstract
import Derived.Shelf.RegionOpen
import Derived.OwnWalkIn
import Derived.TacticsInMore
import Derived.LoopNIn
import Derived.LoopIn
namespace Go.Proofs.Ytokdalilnckkoaa
open Go.RowKit Go.Shelf

attribute [local go_sem] Oper.semAt_some


/-- From the pointer p on, the cells of the stack contain these items; all lie below n₀. -/
def StI (n₀ : Nat) (w : World) : Option Nat → List Int → Prop
  | p, [] => p = none
  | p, x :: r => ∃ c q, p = some c ∧ c < n₀ ∧ ClI w c (.int .i64 x) q ∧ StI n₀ w q r

theorem StI.below {n₀ : Nat} {A B : World} (h : Below n₀ A B) : ∀ {p : Option Nat} {xs : List Int}, StI n₀ A p xs → StI n₀ B p xs
  | _, [], hl => hl
  | _, _ :: _, ⟨c, q, hp, hb, hv, hr⟩ => ⟨c, q, hp, hb, (h.block c hb).trans hv, StI.below h hr⟩

theorem StI.unique {n₀ : Nat} {W : World} : ∀ {p : Option Nat} {xs ys : List Int}, StI n₀ W p xs → StI n₀ W p ys → xs = ys
  | _, [], [], _, _ => rfl
  | _, [], _ :: _, h, ⟨_, _, hp, _⟩ => by rw [h] at hp; cases hp
  | _, _ :: _, [], ⟨_, _, hp, _⟩, h => by rw [h] at hp; cases hp
  | _, x :: xs, y :: ys, ⟨c, q, hp, _, hv, hr⟩, ⟨c', q', hp', _, hv', hr'⟩ => by
    rw [hp] at hp'; cases hp'
    have e := hv.symm.trans hv'
    unfold pv at e
    simp only [Option.some.injEq, Obj.cells.injEq, Array.mk.injEq, List.cons.injEq] at e
    have e1 : x = y := by have h9 := e.1.1; injection h9
    have e2 : q = q' := by
      have h2 := e.1.2.1
      cases q <;> cases q' <;> simp at h2 <;> simp [h2]
    subst e1; subst e2
    rw [StI.unique hr hr']

theorem StI.pt {n₀ : Nat} {W : World} {p : Option Nat} {xs : List Int} (h : StI n₀ W p xs) : PtI W p := by
  intro c e
  cases xs with
  | nil => rw [show p = none from h] at e; cases e
  | cons x r =>
    obtain ⟨c', q, hp, _, hv, _⟩ := h
    rw [hp] at e
    cases e
    exact ⟨_, _, hv⟩

open Classical in
noncomputable def leftI (n₀ : Nat) (W : World) (v : Value) : Nat :=
  if h : ∃ r : Option Nat × List Int, v = pv r.1 ∧ StI n₀ W r.1 r.2 then (Classical.choose h).2.length else 0

theorem leftI_eq {n₀ : Nat} {W : World} {q : Option Nat} {xs : List Int} (h : StI n₀ W q xs) : leftI n₀ W (pv q) = xs.length := by
  have hex : ∃ r : Option Nat × List Int, pv q = pv r.1 ∧ StI n₀ W r.1 r.2 := ⟨(q, xs), rfl, h⟩
  unfold leftI
  rw [dif_pos hex]
  obtain ⟨e, hl⟩ := Classical.choose_spec hex
  have e' : q = (Classical.choose hex).1 := by
    revert e
    generalize (Classical.choose hex).1 = q'
    intro h2
    unfold pv at h2
    cases q <;> cases q' <;> simp at h2 <;> simp [h2]
  rw [← e'] at hl
  rw [StI.unique hl h]

theorem allI (p : Option Addr) (w : World) :
    Calls Try.prog 14 #[.pointer p] w fun e w' => e = .returned (.func (.func 35) #[] #[.pointer (some ⟨w.heap.size, 0, none⟩)]) ∧ w' = w.alloc (.cells #[.pointer p] 24) := by
  go_enter Try.func14, Try.ntmps14
  go_wp2
  go_ret
  exact ⟨rfl, rfl⟩

set_option maxRecDepth 100000 in
set_option maxHeartbeats 1000000 in
theorem all1I (n : Nat) (hn : 1 ≤ n) (l Bn n₀ g : Nat) (top : Option Nat) (pd : Int) (xs : List Int) (J Jx : List Int → World → Prop)
    (hY : ∀ pre x W, J pre W → pre.length < xs.length → YieldAt Fence.wide (n - 1) Try.prog l #[.int .i64 x] W fun e W' =>
      (e = .returned (.bool true) ∧ J (pre ++ [x]) W' ∧ Below n₀ W W') ∨ (e = .returned (.bool false) ∧ Jx (pre ++ [x]) W'))
    (W : World) (hBn : W.cell? ⟨Bn, 0, none⟩ = some (.pointer (some ⟨g, 0, none⟩))) (hF : FrI W g top pd) (hL : StI n₀ W top xs) (h0 : J [] W) :
    CallsIn Fence.wide n Try.prog 35 #[.func (.yield l) #[] #[], .pointer (some ⟨Bn, 0, none⟩)] W fun e W' => (∃ v, e = .returned v) ∧
      ((∃ ys, ys = xs ∧ J ys W') ∨ (∃ pre, pre <+: xs ∧ Jx pre W')) := by
  have H := Lib.hid (loadI g top pd W hF hL.pt)
  clear hF
  refine callsIn_of_wp Try.func35 rfl trivial ?_ rfl
  simp only [Try.ntmps35, List.size_toArray, List.length_cons, List.length_nil, Nat.reduceAdd, Nat.reduceSub, Array.replicate_succ, Array.replicate_zero, List.push_toArray, List.append_toArray, List.nil_append, List.cons_append]
  gi_wp2_with (refine ⟨trivial, ?_⟩; gi_at_call 36; refine (callsIn_wide.2 H.out).mono ?_; rintro e w' ⟨rfl, rfl⟩)
  gi_loopw [3] (fun p wr => ∃ (pre rest : List Int) (q : Option Nat), p = pv q ∧ xs = pre ++ rest ∧ StI n₀ wr q rest ∧ J pre wr)
    (fun p wr => leftI n₀ wr p)
  case atStart =>
    exact ⟨[], xs, top, rfl, rfl, hL, h0⟩
  case round =>
    obtain ⟨pre, rest, q, rfl, hx, hl, hJs⟩ := hrel
    cases rest with
    | nil =>
      obtain rfl : q = none := hl
      rw [pv_none]
      gi_wp2
      go_end0
      exact ⟨⟨_, rfl⟩, .inl ⟨pre, by simp [hx], hJs⟩⟩
    | cons x rest =>
      have hl' := hl
      obtain ⟨b, q', rfl, hb, hcl, hr⟩ := hl
      obtain ⟨fn, tmps, assign, body, hy, hR⟩ := hY pre x wr hJs (by rw [hx]; simp)
      have hv : wr.cell? ⟨b, 0, none⟩ = some (.int .i64 x) := (Bk.cell hcl 0).trans rfl
      rw [pv_some]
      gi_wp2
      refine hR.mono ?_
      rintro e W3 (⟨rfl, hJ3, hk3⟩ | ⟨rfl, hJx3⟩)
      · have hcl3 : ClI W3 b (.int .i64 x) q' := (hk3.block b hb).trans hcl
        have hq3 : W3.cell? ⟨b, 1, none⟩ = some (pv q') := (Bk.cell hcl3 1).trans rfl
        gi_wp2
        go_roundw
        case rel => exact ⟨pre ++ [x], rest, q', rfl, by simp [hx], hr.below hk3, hJ3⟩
        case measure => rw [leftI_eq (hr.below hk3), ← pv_some, leftI_eq hl']; simp
      · gi_wp2
        refine bodyPost_ret (results_none rfl _ _ _) rfl ?_
        exact ⟨⟨_, rfl⟩, .inr ⟨pre ++ [x], ⟨rest, by simp [hx]⟩, hJx3⟩⟩

theorem all_stopsI (n : Nat) (hn : 1 ≤ n) (Bn n₀ g : Nat) (top : Option Nat) (pd : Int) (xs : List Int) (w : World) (hBn : Bn < w.heap.size) (hn₀ : n₀ ≤ w.heap.size)
    (hc : w.cell? ⟨Bn, 0, none⟩ = some (.pointer (some ⟨g, 0, none⟩))) (hg : g < w.heap.size) (hF : FrI w g top pd) (hL : StI n₀ w top xs) :
    SeqStopsK Fence.wide n Try.prog 35 #[.pointer (some ⟨Bn, 0, none⟩)] (fun x : Int => #[.int .i64 x]) (Below n₀) (fun ys => ys = xs) (fun pre => pre <+: xs) xs.length w := fun l J Jx W hW _ _ hY h0 =>
  all1I n hn l Bn n₀ g top pd xs J Jx hY W ((hW.cell (p := ⟨Bn, 0, none⟩) hBn).trans hc) ((hW.block g hg).trans hF) (hL.below (hW.mono hn₀)) h0

/-- From the pointer p on, the cells of the stack contain these items; all lie below n₀. -/
def StS (n₀ : Nat) (w : World) : Option Nat → List Bs → Prop
  | p, [] => p = none
  | p, x :: r => ∃ c q, p = some c ∧ c < n₀ ∧ ClS w c (.string x.1) q ∧ StS n₀ w q r

theorem StS.below {n₀ : Nat} {A B : World} (h : Below n₀ A B) : ∀ {p : Option Nat} {xs : List Bs}, StS n₀ A p xs → StS n₀ B p xs
  | _, [], hl => hl
  | _, _ :: _, ⟨c, q, hp, hb, hv, hr⟩ => ⟨c, q, hp, hb, (h.block c hb).trans hv, StS.below h hr⟩

theorem StS.unique {n₀ : Nat} {W : World} : ∀ {p : Option Nat} {xs ys : List Bs}, StS n₀ W p xs → StS n₀ W p ys → xs = ys
  | _, [], [], _, _ => rfl
  | _, [], _ :: _, h, ⟨_, _, hp, _⟩ => by rw [h] at hp; cases hp
  | _, _ :: _, [], ⟨_, _, hp, _⟩, h => by rw [h] at hp; cases hp
  | _, x :: xs, y :: ys, ⟨c, q, hp, _, hv, hr⟩, ⟨c', q', hp', _, hv', hr'⟩ => by
    rw [hp] at hp'; cases hp'
    have e := hv.symm.trans hv'
    unfold pv at e
    simp only [Option.some.injEq, Obj.cells.injEq, Array.mk.injEq, List.cons.injEq] at e
    have e1 : x = y := by have h9 := e.1.1; injection h9 with h9; exact Subtype.ext h9
    have e2 : q = q' := by
      have h2 := e.1.2.1
      cases q <;> cases q' <;> simp at h2 <;> simp [h2]
    subst e1; subst e2
    rw [StS.unique hr hr']

theorem StS.pt {n₀ : Nat} {W : World} {p : Option Nat} {xs : List Bs} (h : StS n₀ W p xs) : PtS W p := by
  intro c e
  cases xs with
  | nil => rw [show p = none from h] at e; cases e
  | cons x r =>
    obtain ⟨c', q, hp, _, hv, _⟩ := h
    rw [hp] at e
    cases e
    exact ⟨_, _, hv⟩

open Classical in
noncomputable def leftS (n₀ : Nat) (W : World) (v : Value) : Nat :=
  if h : ∃ r : Option Nat × List Bs, v = pv r.1 ∧ StS n₀ W r.1 r.2 then (Classical.choose h).2.length else 0

theorem leftS_eq {n₀ : Nat} {W : World} {q : Option Nat} {xs : List Bs} (h : StS n₀ W q xs) : leftS n₀ W (pv q) = xs.length := by
  have hex : ∃ r : Option Nat × List Bs, pv q = pv r.1 ∧ StS n₀ W r.1 r.2 := ⟨(q, xs), rfl, h⟩
  unfold leftS
  rw [dif_pos hex]
  obtain ⟨e, hl⟩ := Classical.choose_spec hex
  have e' : q = (Classical.choose hex).1 := by
    revert e
    generalize (Classical.choose hex).1 = q'
    intro h2
    unfold pv at h2
    cases q <;> cases q' <;> simp at h2 <;> simp [h2]
  rw [← e'] at hl
  rw [StS.unique hl h]

theorem allS (p : Option Addr) (w : World) :
    Calls Try.prog 28 #[.pointer p] w fun e w' => e = .returned (.func (.func 44) #[] #[.pointer (some ⟨w.heap.size, 0, none⟩)]) ∧ w' = w.alloc (.cells #[.pointer p] 58) := by
  go_enter Try.func28, Try.ntmps28
  go_wp2
  go_ret
  exact ⟨rfl, rfl⟩

set_option maxRecDepth 100000 in
set_option maxHeartbeats 1000000 in
theorem all1S (n : Nat) (hn : 1 ≤ n) (l Bn n₀ g : Nat) (top : Option Nat) (pd : Int) (xs : List Bs) (J Jx : List Bs → World → Prop)
    (hY : ∀ pre x W, J pre W → pre.length < xs.length → YieldAt Fence.wide (n - 1) Try.prog l #[.string x.1] W fun e W' =>
      (e = .returned (.bool true) ∧ J (pre ++ [x]) W' ∧ Below n₀ W W') ∨ (e = .returned (.bool false) ∧ Jx (pre ++ [x]) W'))
    (W : World) (hBn : W.cell? ⟨Bn, 0, none⟩ = some (.pointer (some ⟨g, 0, none⟩))) (hF : FrS W g top pd) (hL : StS n₀ W top xs) (h0 : J [] W) :
    CallsIn Fence.wide n Try.prog 44 #[.func (.yield l) #[] #[], .pointer (some ⟨Bn, 0, none⟩)] W fun e W' => (∃ v, e = .returned v) ∧
      ((∃ ys, ys = xs ∧ J ys W') ∨ (∃ pre, pre <+: xs ∧ Jx pre W')) := by
  have H := Lib.hid (loadS g top pd W hF hL.pt)
  clear hF
  refine callsIn_of_wp Try.func44 rfl trivial ?_ rfl
  simp only [Try.ntmps44, List.size_toArray, List.length_cons, List.length_nil, Nat.reduceAdd, Nat.reduceSub, Array.replicate_succ, Array.replicate_zero, List.push_toArray, List.append_toArray, List.nil_append, List.cons_append]
  gi_wp2_with (refine ⟨trivial, ?_⟩; gi_at_call 45; refine (callsIn_wide.2 H.out).mono ?_; rintro e w' ⟨rfl, rfl⟩)
  gi_loopw [3] (fun p wr => ∃ (pre rest : List Bs) (q : Option Nat), p = pv q ∧ xs = pre ++ rest ∧ StS n₀ wr q rest ∧ J pre wr)
    (fun p wr => leftS n₀ wr p)
  case atStart =>
    exact ⟨[], xs, top, rfl, rfl, hL, h0⟩
  case round =>
    obtain ⟨pre, rest, q, rfl, hx, hl, hJs⟩ := hrel
    cases rest with
    | nil =>
      obtain rfl : q = none := hl
      rw [pv_none]
      gi_wp2
      go_end0
      exact ⟨⟨_, rfl⟩, .inl ⟨pre, by simp [hx], hJs⟩⟩
    | cons x rest =>
      have hl' := hl
      obtain ⟨b, q', rfl, hb, hcl, hr⟩ := hl
      obtain ⟨fn, tmps, assign, body, hy, hR⟩ := hY pre x wr hJs (by rw [hx]; simp)
      have hv : wr.cell? ⟨b, 0, none⟩ = some (.string x.1) := (Bk.cell hcl 0).trans rfl
      rw [pv_some]
      gi_wp2
      refine hR.mono ?_
      rintro e W3 (⟨rfl, hJ3, hk3⟩ | ⟨rfl, hJx3⟩)
      · have hcl3 : ClS W3 b (.string x.1) q' := (hk3.block b hb).trans hcl
        have hq3 : W3.cell? ⟨b, 1, none⟩ = some (pv q') := (Bk.cell hcl3 1).trans rfl
        gi_wp2
        go_roundw
        case rel => exact ⟨pre ++ [x], rest, q', rfl, by simp [hx], hr.below hk3, hJ3⟩
        case measure => rw [leftS_eq (hr.below hk3), ← pv_some, leftS_eq hl']; simp
      · gi_wp2
        refine bodyPost_ret (results_none rfl _ _ _) rfl ?_
        exact ⟨⟨_, rfl⟩, .inr ⟨pre ++ [x], ⟨rest, by simp [hx]⟩, hJx3⟩⟩

theorem all_stopsS (n : Nat) (hn : 1 ≤ n) (Bn n₀ g : Nat) (top : Option Nat) (pd : Int) (xs : List Bs) (w : World) (hBn : Bn < w.heap.size) (hn₀ : n₀ ≤ w.heap.size)
    (hc : w.cell? ⟨Bn, 0, none⟩ = some (.pointer (some ⟨g, 0, none⟩))) (hg : g < w.heap.size) (hF : FrS w g top pd) (hL : StS n₀ w top xs) :
    SeqStopsK Fence.wide n Try.prog 44 #[.pointer (some ⟨Bn, 0, none⟩)] (fun x : Bs => #[.string x.1]) (Below n₀) (fun ys => ys = xs) (fun pre => pre <+: xs) xs.length w := fun l J Jx W hW _ _ hY h0 =>
  all1S n hn l Bn n₀ g top pd xs J Jx hY W ((hW.cell (p := ⟨Bn, 0, none⟩) hBn).trans hc) ((hW.block g hg).trans hF) (hL.below (hW.mono hn₀)) h0

end Go.Proofs.Ytokdalilnckkoaa
