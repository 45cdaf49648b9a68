/- same: the frontier shows the state of the reference. -/
import Derived.Test.YtokdalilnckkoaaRefA
import Derived.Test.YtokdalilnckkoaaOnceR
import Derived.Deep.RegionHeld3
import Derived.Deep.DeepCutAuto
namespace Go.Proofs.Ytokdalilnckkoaa
open Go.RowKit Go.Shelf

attribute [local go_sem] Oper.semAt_some

/-- What holds at the head of a round of the loop over the items. -/
structure Sm (w : World) (b4 b5 b6 : Nat) (v : Value) (xs pre : List Int) (W : World) : Prop where
  x4 : Boxed W b4 4 (.bool false)
  x5 : Boxed W b5 34 v
  x6 : Boxed W b6 3 (.int .i64 pre.length)
  own : Ow W w.heap.size 3 v (xs.map (Value.int .i64))
  ap : v.ownBlock ≠ some b6
  bel : Below w.heap.size w W
  pre : pre <+: xs
  hb4 : w.heap.size ≤ b4
  hb5 : w.heap.size ≤ b5
  hb6 : w.heap.size ≤ b6

theorem Sm.grown {w : World} {b4 b5 b6 B : Nat} {v : Value} {xs pre : List Int} {W W' : World} {row : Option Nat} (h : Sm w b4 b5 b6 v xs pre W) (hB : w.heap.size ≤ B) (hg : W.grownBy W' row) (hr : ∀ r, row = some r → B ≤ r ∧ ∃ o : Obj, W.heap[r]? = some o ∧ o.isCells = false) : Sm w b4 b5 b6 v xs pre W' := by
  have hr' : ∀ r, row = some r → ∃ o : Obj, W.heap[r]? = some o ∧ o.isCells = false := fun r e => (hr r e).2
  exact ⟨Bk.grown h.x4 hg hr', Bk.grown h.x5 hg hr', Bk.grown h.x6 hg hr', h.own.grown hg hr', h.ap, h.bel.grown hg h.bel.size (fun k e => Nat.le_trans hB (hr k e).1), h.pre, h.hb4, h.hb5, h.hb6⟩
theorem Sm.next {w : World} {b4 b5 b6 : Nat} {v : Value} {xs pre : List Int} {x : Int} {W : World} (h : Sm w b4 b5 b6 v xs pre W) (hx : xs[pre.length]? = some x) : Sm w b4 b5 b6 v xs (pre ++ [x]) (W.setCell ⟨b6, 0, none⟩ (.int .i64 (pre.length + 1))) := by
  have hc : ∀ b, b ≠ b6 → (W.setCell ⟨b6, 0, none⟩ (.int .i64 (pre.length + 1))).heap[b]? = W.heap[b]? := fun b hb => Below.heap_setCell W ⟨b6, 0, none⟩ _ b hb
  refine ⟨(hc _ (Bk.ne h.x4 h.x6 (by decide))).trans h.x4, (hc _ (Bk.ne h.x5 h.x6 (by decide))).trans h.x5, ?_, h.own.keep fun b e => hc b fun e' => h.ap (by rw [e, e']), h.ap, h.bel.setCell h.hb6 _, ?_, h.hb4, h.hb5, h.hb6⟩
  · have := Bk.put h.x6 0 (.int .i64 (pre.length + 1))
    simpa [Boxed, Bk] using this
  · obtain ⟨t, ht⟩ := h.pre
    rw [← ht, List.getElem?_append_right (Nat.le_refl _), Nat.sub_self] at hx
    cases t with
    | nil => cases hx
    | cons y t =>
      injection hx with hx
      subst hx
      exact ⟨t, by rw [← ht, List.append_assoc]; rfl⟩
theorem not_pre {xs pre : List Int} {x : Int} (hx : xs[pre.length]? ≠ some x) : ¬ (pre ++ [x]) <+: xs := fun ⟨t, ht⟩ => hx (by rw [← ht, List.append_assoc, List.getElem?_append_right (Nat.le_refl _), Nat.sub_self]; rfl)

set_option maxRecDepth 100000 in
set_option maxHeartbeats 1000000 in
theorem same_any (w0 w : World) (B g r : Nat) (m : Mem Int) (ops : List (Nat × OpS)) (f : RF) (vc vo : Value) (L : List Nat) (hE : EnI w0 w g m ops) (hR : Rf w B r f vc vo) (hL : Chain m m.top L) (hc : RCh f.cells f.top (L.map m.item)) (hl : L.length ≤ 900) (hpd : f.pd = m.pd) :
    Calls Try.prog 23 #[.pointer (some ⟨g, 0, none⟩), .pointer (some ⟨r, 0, none⟩)] w fun e w' => e = .returned (.bool true) ∧ Below w.heap.size w w' := by
  have hS := Lib.hid (hE.rel.iter hL)
  have HL := Lib.hid hL
  have HC := Lib.hid hc
  have HR := Lib.hid hR
  have HE := Lib.hid hE
  have HP := Lib.hid hpd
  have hlen : (L.map m.item).length = L.length := List.length_map _
  replace hlen := Lib.hid hlen
  generalize hxs : L.map m.item = xs at *
  replace hxs := Lib.hid hxs
  clear hL hc hR hE hpd
  refine calls_of_wp_marks Try.func23 rfl ?_
  simp only [Try.ntmps23, List.size_toArray, List.length_cons, List.length_nil, Nat.reduceAdd, Nat.reduceSub, Array.replicate_succ, Array.replicate_zero, List.push_toArray, List.append_toArray, List.nil_append, List.cons_append]
  go_wp2_with fail
  refine (rall_any _ B r f vc vo xs (HR.out.below ((Below.refl _ _).alloc (Nat.le_refl _) _)) HC.out (by rw [hlen.out]; omega)).mono ?_
  rintro e w1 ⟨A, c, rfl, hO, hB⟩
  have hB1 : Below w.heap.size w w1 := ((Below.refl _ w).alloc (Nat.le_refl _) _).trans (hB.mono (by simp))
  have x4 : Boxed w1 w.heap.size 4 (.bool false) := Bk.below (Boxed.new w 4 (.bool false)) hB (by simp)
  have hs1 : w.heap.size + 1 ≤ w1.heap.size := by have := hB.size; simpa using this
  have hO' : Ow w1 w.heap.size 3 (.slice A xs.length c) (xs.map (Value.int .i64)) := by
    refine ⟨hO.1, ?_⟩
    rcases hO.2 with h0 | ⟨g', cap, cur, hv, hg', rest⟩
    · exact .inl h0
    · exact .inr ⟨g', cap, cur, hv, by simp at hg'; omega, rest⟩
  clear hO hB
  replace hO' := Lib.hid hO'
  replace hB1 := Lib.hid hB1
  replace x4 := Lib.hid x4
  go_wp2_with fail
  have hB2 : Below w1.heap.size w1 (w1.alloc (.cells #[.slice A xs.length c] 34)) := (Below.refl _ _).alloc (Nat.le_refl _) _
  have X4 : Hid (Boxed (w1.alloc (.cells #[.slice A xs.length c] 34)) w.heap.size 4 (.bool false)) := Lib.hid (x4.out.alloc _)
  have X5 : Hid (Boxed (w1.alloc (.cells #[.slice A xs.length c] 34)) w1.heap.size 34 (.slice A xs.length c)) := Lib.hid (Boxed.new w1 34 _)
  have O2 : Hid (Ow (w1.alloc (.cells #[.slice A xs.length c] 34)) w.heap.size 3 (.slice A xs.length c) (xs.map (Value.int .i64))) := Lib.hid (hO'.out.alloc _)
  have BL : Hid (Below w.heap.size w (w1.alloc (.cells #[.slice A xs.length c] 34))) := Lib.hid (hB1.out.trans (hB2.mono (by omega)))
  have hs2 : w1.heap.size < (w1.alloc (.cells #[.slice A xs.length c] 34)).heap.size := by simp
  clear hB2 x4 hO' hB1
  generalize w1.heap.size = b5 at *
  generalize w1.alloc (.cells #[.slice A xs.length c] 34) = w2 at *
  have E2 := HE.out.grow BL.out
  have R2 := HR.out.below BL.out
  have hI2 : IterI w2.drew (some ⟨g, 0, none⟩) xs := by
    have h1 : EnI w0 w2.drew g m ops := E2.still ⟨rfl, rfl, rfl, rfl, fun _ _ => rfl⟩
    have := h1.rel.iter HL.out
    rw [hxs.out] at this
    exact this
  have k5 : w2.cell? ⟨b5, 0, none⟩ = some (.slice A xs.length c) := X5.out.cell
  have kr : w2.cell? ⟨r, 2, none⟩ = some (.int .i64 m.pd) := by rw [← HP.out]; exact R2.hd.2.2.1
  have hrl : r < w2.heap.size := Bk.lt R2.fr
  have hgl : g < w2.heap.size := Bk.lt E2.rel.fr
  have HLEN : Hid (Calls Try.prog 17 #[.pointer (some ⟨g, 0, none⟩)] w2.drew fun e w' => e = .returned (.int .i64 xs.length) ∧ Hid (Below w2.heap.size w2 w') ∧ Hid (FrI w' g m.top m.pd) ∧ w'.cell? ⟨b5, 0, none⟩ = some (.slice A xs.length c) ∧ w'.cell? ⟨r, 2, none⟩ = some (.int .i64 m.pd)) := by
    refine Lib.hid ((lenI _ xs w2.drew hI2 (by have := hlen.out; omega)).mono ?_)
    rintro e w' ⟨rfl, hb⟩
    have hb' : Below w2.heap.size w2 w' := ⟨hb.os, hb.tape, hb.output, hb.size, hb.block⟩
    exact ⟨rfl, Lib.hid hb', Lib.hid (Bk.below E2.rel.fr hb' hgl), (hb'.cell (p := ⟨b5, 0, none⟩) hs2).trans k5, (hb'.cell (p := ⟨r, 2, none⟩) hrl).trans kr⟩
  replace hI2 := Lib.hid hI2
  replace E2 := Lib.hid E2
  replace R2 := Lib.hid R2
  go_cut [23] from 10 to 23 (fun s23 wx => s23 = .bool false ∧ Hid (Below w2.heap.size w2 wx))
  case first =>
    go_region_held3 (fun W => W.cell? ⟨b5, 0, none⟩ = some (.slice A xs.length c) ∧ W.cell? ⟨r, 2, none⟩ = some (.int .i64 m.pd)) (first | go_keep | exact ⟨‹_›, ‹_›⟩)
      (first
        | (go_at_call 17; refine HLEN.out.mono ?_; rintro e w3 ⟨rfl, hb3, hf3, k3, kr3⟩)
        | (go_at_call 15; refine (pendingI g m.top m.pd _ hf3.out).mono ?_; rintro e w4 ⟨rfl, rfl⟩))
    go_wp2_with fail
    go_meet
    exact ⟨rfl, hb3⟩
  case rest =>
    obtain ⟨rfl, hbx⟩ := hcut
    have Y4 : Hid (Boxed wc w.heap.size 4 (.bool false)) := Lib.hid (Bk.below X4.out hbx.out (Bk.lt X4.out))
    have Y5 : Hid (Boxed wc b5 34 (.slice A xs.length c)) := Lib.hid (Bk.below X5.out hbx.out (Bk.lt X5.out))
    have Y2 : Hid (Ow wc w.heap.size 3 (.slice A xs.length c) (xs.map (Value.int .i64))) := Lib.hid (O2.out.below hbx.out (Nat.le_refl _))
    have YB : Hid (Below w.heap.size w wc) := Lib.hid (BL.out.trans (hbx.out.mono BL.out.size))
    have hsc : w.heap.size ≤ wc.heap.size := YB.out.size
    clear X4 X5 O2 BL hbx k5 kr hrl hgl HLEN hI2 E2 R2 hs2
    go_wp2_with fail
    refine (allI _ _).mono ?_
    rintro e w3 ⟨rfl, rfl⟩
    go_wp2_with fail
    have hb6 : (wc.alloc (.cells #[.int .i64 0] 3)).heap.size = wc.heap.size + 1 := World.size_alloc ..
    have hcn := cell_new_l (wc.alloc (.cells #[.int .i64 0] 3)) (.pointer (some ⟨g, 0, none⟩)) 24
    rw [World.size_alloc] at hcn
    have hB0 : Below wc.heap.size wc ((wc.alloc (.cells #[.int .i64 0] 3)).alloc (.cells #[.pointer (some ⟨g, 0, none⟩)] 24)) := ((Below.refl _ wc).alloc (Nat.le_refl _) _).alloc (by simp) _
    have hW : Below w.heap.size w ((wc.alloc (.cells #[.int .i64 0] 3)).alloc (.cells #[.pointer (some ⟨g, 0, none⟩)] 24)) := YB.out.trans (hB0.mono hsc)
    have st : Sm w w.heap.size b5 wc.heap.size (.slice A xs.length c) xs [] ((wc.alloc (.cells #[.int .i64 0] 3)).alloc (.cells #[.pointer (some ⟨g, 0, none⟩)] 24)) := by
      refine ⟨(Y4.out.alloc _).alloc _, (Y5.out.alloc _).alloc _, (Boxed.new wc 3 (.int .i64 0)).alloc _, (Y2.out.alloc _).alloc _, fun e => ?_, hW, List.nil_prefix, Nat.le_refl _, by omega, hsc⟩
      have := (Y2.out.lt _ e).2
      omega
    refine wpIn_wide.1 (wpIn_rangeFunc_ownF (F := Fence.wide) (n := 9) rfl (by decide) (gf := 35) (lb := #[.pointer (some ⟨wc.heap.size + 1, 0, none⟩)]) rfl trivial (enters_of Try.func35 (by kernel_rfl) rfl)
      (hS.out 8 (wc.heap.size + 1) _ (by decide) hW (by simp) hcn.1) belowK_t (belowK_b (by simp; omega)) (Below.refl _ _) (fun _ => rfl)
      (fun pre W => Sm w w.heap.size b5 wc.heap.size (.slice A xs.length c) xs pre W)
      (fun _ pre _ => ¬ pre <+: xs)
      (fun s W W' row hs hg hr => hs.grown (by simp; omega) hg hr)
      (fun _ _ _ _ _ hs _ _ => hs)
      st
      ?a1 ?assign ?body ?done ?stop)
    case assign =>
      intro l x W K hK
      gi_wp2
      simpa using hK
    case body =>
      rintro l pre x W hJ hlt
      have c4 := hJ.x4.cell
      have f4 := hJ.x4.frozen
      have c5 := hJ.x5.cell
      have c6 := hJ.x6.cell
      have f6 := hJ.x6.frozen
      have hxl : xs.length ≤ 900 := by rw [hlen.out]; exact hl
      obtain ⟨y, hy⟩ : ∃ y, xs[pre.length]? = some y := ⟨_, List.getElem?_eq_getElem hlt⟩
      obtain ⟨ad, hA, _, hcell⟩ := (Sees.own (show W.ownsRow w.heap.size 3 1 (.slice A xs.length c) xs.length (xs.map (Value.int .i64)) from by have := hJ.own; unfold Ow at this; rw [List.length_map] at this; exact this)) pre.length (.int .i64 y) (by rw [List.getElem?_map, hy]; rfl)
      subst hA
      have hlt' : (pre.length : Int) < xs.length := by omega
      by_cases hxy : y = x
      · subst hxy
        have HN := Lib.hid (hJ.next hy)
        replace hy := Lib.hid hy
        replace hJ := Lib.hid hJ
        clear st hW hB0 hcn hb6
        gi_wp2
        exact ⟨KeepsOthers.setCell _ _ _, (Below.refl _ W).setCell (p := ⟨wc.heap.size, 0, none⟩) hsc _, HN.out⟩
      · have HB := Lib.hid (not_pre (x := x) (show xs[pre.length]? ≠ some x by rw [hy]; exact fun e => hxy (by injection e)))
        have hxy' : (y != x) = true := by simpa using hxy
        replace hy := Lib.hid hy
        replace hJ := Lib.hid hJ
        clear st hW hB0 hcn hb6
        gi_wp2
        exact ⟨KeepsOthers.setCell _ _ _, HB.out⟩
    case done =>
      rintro D ys W hD rfl hJ hK
      have hwD : w.heap.size ≤ D := by
        simp only [World.size_alloc] at hD
        omega
      have c4 := hJ.x4.cell
      have f4 := hJ.x4.frozen
      have c5 := hJ.x5.cell
      have c6 := hJ.x6.cell
      have BJ := Lib.hid hJ.bel
      replace hK := Lib.hid hK
      replace hwD := Lib.hid hwD
      clear hD hJ st hW hB0 hcn hb6
      go_wp2
      have hK' := (KeepsOthers.setCell W ⟨w.heap.size, 0, none⟩ (.bool true)).same D _ hK.out rfl
      have hc5 := cell_kept (World.cell?_setCell_same' W ⟨w.heap.size, 0, none⟩ (.bool true) (by rw [c4]; rfl)) (grownBy_putObj' _ D (.deferred none)) (fun r e => by cases e; exact ⟨_, hK', rfl⟩)
      refine ⟨by simp, .inl ⟨_, _, rfl, run_takeDeferred hK', ?_⟩⟩
      refine ⟨.bool true, ?_, rfl, (BJ.out.setCell (p := ⟨w.heap.size, 0, none⟩) (Nat.le_refl _) _).trans (belowK_b (w := w) (Nat.le_refl _) _ D _ _ hwD.out hK' rfl rfl)⟩
      simp [results, go_sem, hc5]
    case stop =>
      rintro D c pre W _ hp h _
      exact (h hp).elim

end Go.Proofs.Ytokdalilnckkoaa
