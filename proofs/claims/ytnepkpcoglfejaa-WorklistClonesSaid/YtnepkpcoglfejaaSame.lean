/- same: the list has the items of the reference. -/
import Derived.Test.YtnepkpcoglfejaaRefK
import Derived.RegionIn
import Derived.BigRegionIn
set_option linter.unusedVariables false
namespace Go.Proofs.Ytnepkpcoglfejaa
open Go.RowKit Go.Sort Go.Shelf

attribute [local go_sem] Oper.semAt_some

theorem cell_of_box_l {W : World} {B : Nat} {v : Value} {t : TypeId} (h : W.heap[B]? = some (.cells #[v] t (0, 0))) : W.cell? ⟨B, 0, none⟩ = some v ∧ W.frozen? ⟨B, 0, none⟩ = false := by
  constructor <;> simp [World.cell?, World.frozen?, h]
theorem cell_new_l (W : World) (v : Value) (t : TypeId) : (W.alloc (.cells #[v] t)).cell? ⟨W.heap.size, 0, none⟩ = some v ∧ (W.alloc (.cells #[v] t)).frozen? ⟨W.heap.size, 0, none⟩ = false :=
  cell_of_box_l (World.alloc_heap_new W _)
theorem bk_own {g t : Nat} {cs : Array Value} {W W' : World} {row : Option Nat} (h : Bk W g t cs) (hg : W.grownBy W' row) (hr : ∀ r, row = some r → ∃ o : Obj, W.heap[r]? = some o ∧ o.isCells = false) : Bk W' g t cs := by
  refine (hg.block g h.lt fun e => ?_).trans h
  obtain ⟨o, ho, hc⟩ := hr g e.symm
  unfold Bk at h
  rw [h] at ho
  injection ho with ho
  rw [← ho] at hc
  cases hc
theorem gr_own {w W W' : World} {B : Nat} {row : Option Nat} (h : Gr w W) (hB : w.heap.size ≤ B) (hg : W.grownBy W' row) (hr : ∀ r, row = some r → B ≤ r ∧ ∃ o : Obj, W.heap[r]? = some o ∧ o.isCells = false) : Gr w W' :=
  Gr.of (h.below.grown hg h.size (fun k e => Nat.le_trans hB (hr k e).1))
theorem Rf.grown {A : Option Addr} {l : List (Int × Int)} {W W' : World} {row : Option Nat} (h : Rf W A l) (hg : W.grownBy W' row) (hr : ∀ r, row = some r → ∃ o : Obj, W.heap[r]? = some o ∧ o.isCells = false) : Rf W' A l :=
  h.keep fun b cs hb => (bk_own hb hg hr).trans hb.symm

/-- What holds at the head of a round of the loop over the items. -/
structure Sm (w : World) (b3 b4 b5 : Nat) (A : Option Addr) (n c : Nat) (l pre : List (Int × Int)) (W : World) : Prop where
  x3 : Bk W b3 42 #[.slice A n c]
  x4 : Bk W b4 4 #[.bool false]
  x5 : Bk W b5 3 #[.int .i64 pre.length]
  rf : Rf W A l
  gr : Gr w W
  pre : pre <+: l
  h4 : w.heap.size ≤ b4
  h5 : w.heap.size ≤ b5
section
variable {w : World} {b3 b4 b5 B n c : Nat} {A : Option Addr} {l pre : List (Int × Int)} {W W' : World} {row : Option Nat} {x : Int × Int}
theorem Sm.grown (h : Sm w b3 b4 b5 A n c l pre W) (hB : w.heap.size ≤ B) (hg : W.grownBy W' row) (hr : ∀ r, row = some r → B ≤ r ∧ ∃ o : Obj, W.heap[r]? = some o ∧ o.isCells = false) : Sm w b3 b4 b5 A n c l pre W' := by
  have hr' : ∀ r, row = some r → ∃ o : Obj, W.heap[r]? = some o ∧ o.isCells = false := fun r e => (hr r e).2
  exact ⟨bk_own h.x3 hg hr', bk_own h.x4 hg hr', bk_own h.x5 hg hr', h.rf.grown hg hr', gr_own h.gr hB hg hr, h.pre, h.h4, h.h5⟩
theorem Sm.no (h : Sm w b3 b4 b5 A n c l pre W) (hF : Fr (fun _ => False) W W') : Sm w b3 b4 b5 A n c l pre W' :=
  ⟨hF.bk h.x3 id, hF.bk h.x4 id, hF.bk h.x5 id, h.rf.no hF, h.gr.no hF, h.pre, h.h4, h.h5⟩
theorem Sm.next (h : Sm w b3 b4 b5 A n c l pre W) (hx : l[pre.length]? = some x) : Sm w b3 b4 b5 A n c l (pre ++ [x]) (W.setCell ⟨b5, 0, none⟩ (.int .i64 (pre.length + 1))) := by
  have hF : Fr (fun b => b = b5) W (W.setCell ⟨b5, 0, none⟩ (.int .i64 (pre.length + 1))) := Fr.set _ _ _ rfl
  refine ⟨hF.bk h.x3 (Bk.ne h.x3 h.x5 (by decide)), hF.bk h.x4 (Bk.ne h.x4 h.x5 (by decide)), ?_, h.rf.fr hF (fun b cs hb => Bk.ne hb h.x5 (by decide)), h.gr.step hF fun b _ e => by rw [e]; exact h.h5, ?_, h.h4, h.h5⟩
  · have := Bk.put h.x5 0 (.int .i64 (pre.length + 1))
    simpa [Bk] using this
  · obtain ⟨t, ht⟩ := h.pre
    rw [← ht, List.getElem?_append_right (Nat.le_refl _), Nat.sub_self] at hx
    cases t with
    | nil => cases hx
    | cons y t =>
      injection hx with hx
      subst hx
      exact ⟨t, by rw [← ht, List.append_assoc]; rfl⟩
end
theorem not_pre {xs pre : List (Int × Int)} {x : Int × Int} (hx : xs[pre.length]? ≠ some x) : ¬ (pre ++ [x]) <+: xs := fun ⟨t, ht⟩ => hx (by rw [← ht, List.append_assoc, List.getElem?_append_right (Nat.le_refl _), Nat.sub_self]; rfl)

theorem KeepsOthers.of_drew (W : World) : KeepsOthers W W.drew := ⟨Nat.le_refl _, fun _ _ h _ => h⟩

set_option maxRecDepth 100000 in
set_option maxHeartbeats 4000000 in
theorem same_any (w0 w : World) (p n c N : Nat) (hv : Value) (E : List ((Int × Int) × Int)) (A : Option Addr) (hE : EnA w0 w p hv E N) (hR : Rf w A (E.map (·.1))) (hn : E.length = n) (h6 : n ≤ 1000) :
    Calls Try.prog 23 #[.pointer (some ⟨p, 0, none⟩), .slice A n c] w fun e w' => e = .returned (.bool true) ∧ Gr w w' := by
  have HLQ : Hid (∀ q, Calls Try.prog 14 #[.pointer (some ⟨p, 0, none⟩)] (((w.alloc (.cells #[.slice A n c] 42)).alloc (.cells #[.bool false] 4)).drewN q) fun e w' => e = .returned (.int .i64 n) ∧ w' = ((w.alloc (.cells #[.slice A n c] 42)).alloc (.cells #[.bool false] 4)).drewN q) := fun q => by
    have := e_lenQ ((hE.alloc (.cells #[.slice A n c] 42)).alloc (.cells #[.bool false] 4)) q
    rw [hn] at this
    exact this
  have HE := Lib.hid hE
  have HR := Lib.hid hR
  have hlen : Hid ((E.map (·.1)).length = n) := by rw [List.length_map]; exact hn
  have HN := Lib.hid hn
  generalize hxs : E.map (·.1) = xs at *
  have HXS := Lib.hid hxs
  clear hE hR hn hxs
  refine calls_of_wp_marks Try.func23 rfl ?_
  simp only [Try.ntmps23, List.size_toArray, List.length_cons, List.length_nil, Nat.reduceAdd, Nat.reduceSub, Array.replicate_succ, Array.replicate_zero, List.push_toArray, List.append_toArray, List.nil_append, List.cons_append]
  go_wp2_with fail
  have X3 : Bk ((w.alloc (.cells #[.slice A n c] 42)).alloc (.cells #[.bool false] 4)) w.heap.size 42 #[.slice A n c] := (Bk.made _ _ _).alloc _
  have X4 : Bk ((w.alloc (.cells #[.slice A n c] 42)).alloc (.cells #[.bool false] 4)) (w.heap.size + 1) 4 #[.bool false] := by
    have := Bk.made (w.alloc (.cells #[.slice A n c] 42)) 4 #[.bool false]
    rwa [World.size_alloc] at this
  have G2 := Lib.hid (((Gr.refl w).alloc (.cells #[.slice A n c] 42)).alloc (.cells #[.bool false] 4))
  have c3 : ((w.alloc (.cells #[.slice A n c] 42)).alloc (.cells #[.bool false] 4)).cell? ⟨w.heap.size, 0, none⟩ = some (.slice A n c) := (X3.cell 0).trans rfl
  replace X3 := Lib.hid X3
  replace X4 := Lib.hid X4
  generalize (w.alloc (.cells #[.slice A n c] 42)).alloc (.cells #[.bool false] 4) = w2 at *
  go_quiet ((go_at_call 14; exact Calls.quiet_of_same (HLQ.out _)))
  clear HLQ c3
  have Y3 : Hid (Bk (w2.drewN nq) w.heap.size 42 #[.slice A n c]) := X3.out
  have Y4 : Hid (Bk (w2.drewN nq) (w.heap.size + 1) 4 #[.bool false]) := X4.out
  have G3 := Lib.hid (G2.out.no (Fr.drewN _ w2 nq))
  clear X3 X4 G2
  generalize w2.drewN nq = w3 at *
  go_wp2_with fail
  refine (allA _ _).mono ?_
  rintro e w4 ⟨rfl, rfl⟩
  go_wp2_with fail
  have hs3 := G3.out.size
  have hl4 := Y4.out.lt
  have hcn := cell_new_l (w3.alloc (.cells #[.int .i64 0] 3)) (.pointer (some ⟨p, 0, none⟩)) 24
  rw [World.size_alloc] at hcn
  have G4 : Gr w ((w3.alloc (.cells #[.int .i64 0] 3)).alloc (.cells #[.pointer (some ⟨p, 0, none⟩)] 24)) := (G3.out.alloc _).alloc _
  have st : Sm w w.heap.size (w.heap.size + 1) w3.heap.size A n c xs [] ((w3.alloc (.cells #[.int .i64 0] 3)).alloc (.cells #[.pointer (some ⟨p, 0, none⟩)] 24)) :=
    ⟨(Y3.out.alloc _).alloc _, (Y4.out.alloc _).alloc _, (Bk.made _ _ _).alloc _, HR.out.no G4.fr, G4, List.nil_prefix, by omega, hs3⟩
  have E4 := HE.out.no G4.fr
  have hsq := all_stopsA lessA 8 (by decide) (w3.heap.size + 1) p _ N hv E (fun b => b = w3.heap.size) _ (by intro b e; rw [e]; simp; omega) (by simp) hcn.1 E4.wl (fun _ _ => trivial) (by rw [HN.out]; omega)
  rw [HXS.out, HN.out] at hsq
  refine wpIn_wide.1 (wpIn_rangeFunc_ownH (F := Fence.wide) (n := 9) rfl (by decide) (gf := 43) (lb := #[.pointer (some ⟨w3.heap.size + 1, 0, none⟩)]) rfl trivial (enters_of Try.func43 (by kernel_rfl) rfl)
    hsq Ky.trans Ky.put (Below.refl _ _) (fun _ => rfl)
    (fun pre W => Sm w w.heap.size (w.heap.size + 1) w3.heap.size A n c xs pre W)
    (fun _ pre _ => ¬ pre <+: xs)
    (fun s W W' row hs hg hr => hs.grown (by simp; omega) hg hr)
    (fun _ _ _ _ _ hs _ _ => hs)
    st
    (fun x a' W => ∃ q : Nat, a' = { tmps := #[.pointer (some ⟨p, 0, none⟩), .slice A n c, undef, .pointer (some ⟨w.heap.size, 0, none⟩), .pointer (some ⟨w.heap.size + 1, 0, none⟩), .pointer (some ⟨w3.heap.size, 0, none⟩), .pointer (some ⟨q, 0, none⟩), .pointer (some ⟨p, 0, none⟩), .int .i64 n, .slice A n c, .int .i64 n, .bool false, .pointer (some ⟨p, 0, none⟩), .func (.func 43) #[] #[.pointer (some ⟨w3.heap.size + 1, 0, none⟩)], .agg #[.int .i64 x.1, .int .i64 x.2], undef, undef, undef, undef, undef, undef, undef, undef, undef, undef, undef, undef, undef, undef, undef, undef, undef, undef], defers := [] } ∧ Bk W q 27 #[.int .i64 x.1, .int .i64 x.2])
    (fun x a' _ W W' row hs hg hr => by
      obtain ⟨q, h1, h2⟩ := hs
      exact ⟨q, h1, bk_own h2 hg (fun r e => (hr r e).2)⟩)
    ?assign ?body ?done ?stop)
  case assign =>
    intro l pre x W K hI hK
    have hI2 := hI.no (Fr.alloc _ W (.cells #[.int .i64 x.1, .int .i64 x.2] 27))
    have hK2 := hK _ _ ((KeepsOthers.alloc W (.cells #[.int .i64 x.1, .int .i64 x.2] 27)).from _) (Ky.of (Fr.alloc _ _ _)) hI2 ⟨W.heap.size, rfl, Bk.made _ _ _⟩
    gi_wp2
    simpa using hK2
  case body =>
    rintro l pre ⟨x1, x2⟩ a' W _ _ hJ ⟨q, rfl, hq⟩ hlt
    clear st hsq E4 G4 hcn
    have c3 : W.cell? ⟨w.heap.size, 0, none⟩ = some (.slice A n c) := (hJ.x3.cell 0).trans rfl
    have c4 : W.cell? ⟨w.heap.size + 1, 0, none⟩ = some (.bool false) := (hJ.x4.cell 0).trans rfl
    have f4 := hJ.x4.frozen 0
    have c5 : W.cell? ⟨w3.heap.size, 0, none⟩ = some (.int .i64 pre.length) := (hJ.x5.cell 0).trans rfl
    have f5 := hJ.x5.frozen 0
    have q1 : W.cell? ⟨q, 0, none⟩ = some (.int .i64 x1) := (hq.cell 0).trans rfl
    have q2 : W.cell? ⟨q, 1, none⟩ = some (.int .i64 x2) := (hq.cell 1).trans rfl
    obtain ⟨y, hy⟩ : ∃ y, xs[pre.length]? = some y := ⟨_, List.getElem?_eq_getElem (by rw [hlen.out]; exact hlt)⟩
    obtain ⟨ad, cs, hA, hb, d1, d2⟩ := hJ.rf pre.length y hy
    subst hA
    obtain ⟨y1, y2⟩ := y
    have hlt' : decide (n ≤ pre.length) = false := by simp; omega
    by_cases hxy : y1 = x1 ∧ y2 = x2
    · obtain ⟨rfl, rfl⟩ := hxy
      have HN9 := Lib.hid ((hJ.no (Fr.drew _ W)).next hy)
      clear hJ hy hb hq
      gi_wp2_with fail
      gi_region
      all_goals (gi_wp2; exact ⟨((KeepsOthers.of_drew W).trans (KeepsOthers.setCell _ _ _)).from _, (Ky.of (Fr.drew _ W)).trans (Ky.set _ _ _ rfl), HN9.out⟩)
    · have HB := Lib.hid (not_pre (x := (x1, x2)) (show xs[pre.length]? ≠ some (x1, x2) by rw [hy]; exact fun e => hxy (by injection e with e; injection e with e1 e2; exact ⟨e1, e2⟩)))
      clear hJ hy hb hq
      by_cases h1 : y1 = x1
      · subst h1
        have h2 : (y2 == x2) = false := by simp; exact fun e => hxy ⟨rfl, e⟩
        gi_wp2_with fail
        gi_region
        all_goals (gi_wp2; exact ⟨((KeepsOthers.of_drew W).trans (KeepsOthers.setCell _ _ _)).from _, HB.out⟩)
      · have h2 : (y1 == x1) = false := by simpa using h1
        gi_wp2_with fail
        gi_region
        all_goals (gi_wp2; exact ⟨((KeepsOthers.of_drew W).trans (KeepsOthers.setCell _ _ _)).from _, HB.out⟩)
  case done =>
    rintro D ys W hD rfl hJ hK
    have hwD : w.heap.size ≤ D := by
      simp only [World.size_alloc] at hD
      omega
    have c3 : W.cell? ⟨w.heap.size, 0, none⟩ = some (.slice A n c) := (hJ.x3.cell 0).trans rfl
    have c4 : W.cell? ⟨w.heap.size + 1, 0, none⟩ = some (.bool false) := (hJ.x4.cell 0).trans rfl
    have f4 := hJ.x4.frozen 0
    have c5 : W.cell? ⟨w3.heap.size, 0, none⟩ = some (.int .i64 n) := by rw [← hlen.out]; exact (hJ.x5.cell 0).trans rfl
    have GJ := Lib.hid hJ.gr
    replace hK := Lib.hid hK
    clear hD hJ st hsq E4 G4 hcn
    go_wp2
    have hK' := (KeepsOthers.setCell W ⟨w.heap.size + 1, 0, none⟩ (.bool true)).same D _ hK.out rfl
    have hc5 := cell_kept (World.cell?_setCell_same' W ⟨w.heap.size + 1, 0, none⟩ (.bool true) (by rw [c4]; rfl)) (grownBy_putObj' _ D (.deferred none)) (fun r e => by cases e; exact ⟨_, hK', rfl⟩)
    refine ⟨by simp, .inl ⟨_, _, rfl, run_takeDeferred hK', ?_⟩⟩
    refine ⟨.bool true, ?_, rfl, Gr.of (((GJ.out.set (p := ⟨w.heap.size + 1, 0, none⟩) (by show w.heap.size ≤ w.heap.size + 1; omega) (.bool true)).below).trans (belowK_b (w := w) (Nat.le_refl _) _ D _ _ hwD hK' rfl rfl))⟩
    simp [results, go_sem, hc5]
  case stop =>
    rintro D c pre W _ hp h _
    exact (h hp).elim
end Go.Proofs.Ytnepkpcoglfejaa
