/- The reference's New, Begin and Step, walked. -/
import Derived.Test.YtokdalilnckkoaaRefP
namespace Go.Proofs.Ytokdalilnckkoaa
open Go.RowKit Go.Shelf

attribute [local go_sem] Oper.semAt_some

theorem rnew_any (w : World) : Calls Try.prog 18 #[] w fun e w' => e = .returned (.pointer (some ⟨w.heap.size, 0, none⟩)) ∧ Rf w' w.heap.size w.heap.size ⟨[], -1, 0, []⟩ (.slice none 0 0) (.slice none 0 0) ∧ Below w.heap.size w w' := by
  go_enter Try.func18, Try.ntmps18
  go_wp2
  go_ret
  exact ⟨rfl, ⟨Bk.made _ _ _, World.ownsRow_nil _ _ _ _, World.ownsRow_nil _ _ _ _, Nat.le_refl _⟩, (Below.refl _ _).alloc (Nat.le_refl _) _⟩

theorem rpush_ops (f : RF) (o : ROp) : (rpush f o).1.ops = f.ops := by
  unfold rpush
  split
  · rfl
  · split
    · rfl
    · split <;> rfl
theorem rtake_ops (f : RF) (o : ROp) : (rtake f o).1.ops = f.ops := by
  unfold rtake
  split
  · rfl
  · split
    · split <;> rfl
    · rfl
theorem rstp_ops (f : RF) (o : ROp) : (rstp f o).1.ops = f.ops := by
  unfold rstp
  split
  · rfl
  · split
    · exact rpush_ops f o
    · split
      · exact rtake_ops f o
      · rfl

set_option maxRecDepth 100000 in
set_option maxHeartbeats 1000000 in
theorem rstep_any (w : World) (B r i : Nat) (f : RF) (vc vo : Value) (o : ROp) (h : Rf w B r f vc vo) (hi : f.ops[i]? = some o) (hok : ROk f o) (hk : o.kind = 1 ∨ o.kind = 2 ∨ o.kind = 3) (hcb : f.cells.length ≤ 1000) (hp1 : -1000 ≤ f.pd) (hp2 : f.pd ≤ 1000) :
    Calls Try.prog 21 #[.pointer (some ⟨r, 0, none⟩), .int .i64 i] w fun e w' => e = .returned (.bool (decide ((rstp f o).2.pc = 0))) ∧ (∃ vc', Rf w' B r { (rstp f o).1 with ops := f.ops.set i (rstp f o).2 } vc' vo) ∧ FmR B w w' := by
  obtain ⟨go, co, rfl⟩ : ∃ go co, vo = .slice (some ⟨go, 0, none⟩) f.ops.length co := by
    have hil := (List.getElem?_eq_some_iff.1 hi).1
    rcases h.os.2 with ⟨_, h0⟩ | ⟨g, cap, cur, rfl, _⟩
    · omega
    · exact ⟨g, cap, rfl⟩
  have hil := (List.getElem?_eq_some_iff.1 hi).1
  have hil' : (i : Int) < f.ops.length := by omega
  have R := Rs.start h hi rfl rfl
  have hh : Hid (Rf w B r f vc (.slice (some ⟨go, 0, none⟩) f.ops.length co)) := Lib.hid h
  have hii : Hid (f.ops[i]? = some o) := Lib.hid hi
  have HOK := Lib.hid hok
  clear hi hok
  obtain ⟨a0, a1, a2, a3, b0, b1, b2, b3⟩ := h.hd
  clear h
  obtain ⟨c0, c1, c2, c3, c4, c5, c6, f2, f3, f4, f5, f6⟩ := R.oc
  have hne : ¬ r = go := R.ne
  have hne' : ¬ go = r := fun e => hne e.symm
  obtain ⟨kind, item, pc, cell, read, got, res⟩ := o
  dsimp only at c0 c1 c2 c3 c4 c5 c6 hk
  replace R := Lib.hid R
  generalize hL : f.ops.length = L at *
  have hL' := Lib.hid hL
  clear hL
  by_cases h0 : pc = 0
  · subst h0
    have HT := Lib.hid (show rstp f ⟨kind, item, 0, cell, read, got, res⟩ = (f, ⟨kind, item, 0, cell, read, got, res⟩) by simp [rstp])
    rw [HT.out]
    go_enter Try.func21, Try.ntmps21
    go_wp2
    go_ret
    exact ⟨rfl, ⟨_, R.out.rf⟩, R.out.fm⟩
  have e0 : (pc == 0) = false := by simpa using h0
  rcases hk with rfl | rfl | rfl
  · have HT := Lib.hid (show rstp f ⟨1, item, pc, cell, read, got, res⟩ = rpush f ⟨1, item, pc, cell, read, got, res⟩ by simp [rstp, h0])
    obtain ⟨f', o', HE⟩ : ∃ f' o', rpush f ⟨1, item, pc, cell, read, got, res⟩ = (f', o') := ⟨_, _, rfl⟩
    rw [HT.out, HE]
    replace HE := Lib.hid HE
    go_enter Try.func21, Try.ntmps21
    go_wp2_with fail
    refine (rpush_any w B r go _ co i _ f vc _ hh.out hii.out hL'.out rfl (fun e => HOK.out.1 rfl h0 e) hcb hp1 hp2).mono ?_
    rintro e w1 ⟨⟨v, rfl⟩, vc', R1⟩
    obtain ⟨d0, d1, d2, d3, d4, d5, d6, _⟩ := R1.oc
    replace R1 := Lib.hid R1
    clear a0 a1 a2 a3 b0 b1 b2 b3 c0 c1 c2 c3 c4 c5 c6 f2 f3 f4 f5 f6
    have HO := Lib.hid (rpush_ops f ⟨1, item, pc, cell, read, got, res⟩)
    rw [HE.out] at HO R1 d0 d1 d2 d3 d4 d5 d6
    dsimp only at d0 d1 d2 d3 d4 d5 d6 R1 HO ⊢
    go_wp2
    go_ret
    refine ⟨ret_bool rfl, ⟨vc', ?_⟩, R1.out.fm⟩
    rw [← HO.out]
    exact R1.out.rf
  · have HT := Lib.hid (show rstp f ⟨2, item, pc, cell, read, got, res⟩ = rtake f ⟨2, item, pc, cell, read, got, res⟩ by simp [rstp, h0])
    obtain ⟨f', o', HE⟩ : ∃ f' o', rtake f ⟨2, item, pc, cell, read, got, res⟩ = (f', o') := ⟨_, _, rfl⟩
    rw [HT.out, HE]
    replace HE := Lib.hid HE
    go_enter Try.func21, Try.ntmps21
    go_wp2_with fail
    refine (rtake_any w B r go _ co i _ f vc _ hh.out hii.out hL'.out rfl (fun e => HOK.out.2 rfl e)).mono ?_
    rintro e w1 ⟨⟨v, rfl⟩, R1⟩
    obtain ⟨d0, d1, d2, d3, d4, d5, d6, _⟩ := R1.oc
    replace R1 := Lib.hid R1
    clear a0 a1 a2 a3 b0 b1 b2 b3 c0 c1 c2 c3 c4 c5 c6 f2 f3 f4 f5 f6
    have HO := Lib.hid (rtake_ops f ⟨2, item, pc, cell, read, got, res⟩)
    rw [HE.out] at HO R1 d0 d1 d2 d3 d4 d5 d6
    dsimp only at d0 d1 d2 d3 d4 d5 d6 R1 HO ⊢
    go_wp2
    go_ret
    refine ⟨ret_bool rfl, ⟨vc, ?_⟩, R1.out.fm⟩
    rw [← HO.out]
    exact R1.out.rf
  · have HT := Lib.hid (show rstp f ⟨3, item, pc, cell, read, got, res⟩ = ({ f with pd := f.pd - 1 }, ⟨3, item, 0, cell, read, got, res⟩) by simp [rstp, h0])
    rw [HT.out]
    go_enter Try.func21, Try.ntmps21
    go_wp2
    go_ret
    have R1 := (R.out.pd (f.pd - 1)).op (j := 2) (x := .int .i64 0) (o' := ⟨3, item, 0, cell, read, got, res⟩) (by decide) rfl
    exact ⟨rfl, ⟨vc, R1.rf⟩, R1.fm⟩

/-- The operations have grown by one. -/
theorem Rf.growOps {w w' : World} {B r : Nat} {f : RF} {vc vo vo' : Value} {o : ROp} (h : Rf w B r f vc vo) (hown : w'.ownsRow B 52 7 vo' (f.ops.length + 1) (f.ops.flatMap opC ++ opC o)) (hG : Gw w w' vo) :
    Rf (w'.setCell ⟨r, 3, none⟩ vo') B r { f with ops := f.ops ++ [o] } vc vo' ∧ FmR B w (w'.setCell ⟨r, 3, none⟩ vo') ∧ Bk w' r 56 #[vc, .int .i64 f.top, .int .i64 f.pd, vo] := by
  have hk : ∀ {b t : Nat} {cs : Array Value}, Bk w b t cs → t ≠ 52 → Bk w' b t cs := fun hb ht => hb.keep (hG.keep _ hb.lt (rw_ne h.os hb ht))
  have hfr := hk h.fr (by decide)
  have hcs : w'.ownsRow B 109 2 vc f.cells.length (f.cells.flatMap cellC) := rw_keep h.cs fun b e => hG.keep b (rw_lt h.cs b e).2 (fun e' => h.nco b e e')
  have hro : ∀ b, vo'.ownBlock = some b → b ≠ r := fun b e e' => rw_ne hown hfr (by decide) (by rw [e, e'])
  have hrc : ∀ b, vc.ownBlock = some b → b ≠ r := fun b e e' => rw_ne hcs hfr (by decide) (by rw [e, e'])
  have hbel : Below B w w' := hG.bel B (by have := h.hr; have := Bk.lt h.fr; omega) (fun b e => (rw_lt h.os b e).1)
  refine ⟨⟨?_, rw_keep hcs fun b e => Below.heap_setCell _ _ _ _ (hrc b e), ?_, h.hr⟩, ⟨hbel.setCell h.hr _, fun b hb ht => ?_⟩, hfr⟩
  · exact Bk.put hfr 3 vo'
  · have : w'.ownsRow B 52 7 vo' (f.ops ++ [o]).length ((f.ops ++ [o]).flatMap opC) := by
      rw [List.length_append, List.flatMap_append]
      simpa using hown
    exact rw_keep this fun b e => Below.heap_setCell _ _ _ _ (hro b e)
  · refine (Below.heap_setCell _ _ _ _ fun e => ?_).trans (hG.keep b hb fun e => ?_)
    · have e' : b = r := e
      subst e'
      exact (ht _ _ h.fr).1 rfl
    · obtain ⟨cu, hcu⟩ := rw_bk h.os b e
      exact (ht _ _ hcu).2.2 rfl

set_option maxRecDepth 100000 in
set_option maxHeartbeats 1000000 in
theorem rbegin_any (w : World) (B r : Nat) (f : RF) (vc vo : Value) (kind item : Int) (h : Rf w B r f vc vo) (hob : f.ops.length ≤ 1000) :
    Calls Try.prog 19 #[.pointer (some ⟨r, 0, none⟩), .int .i64 kind, .int .i64 item] w fun e w' => (∃ v, e = .returned v) ∧ (∃ vo', Rf w' B r { f with ops := f.ops ++ [⟨kind, item, 1, -1, -1, 0, 0⟩] } vc vo') ∧ FmR B w w' := by
  obtain ⟨a0, a1, a2, a3, b0, b1, b2, b3⟩ := h.hd
  obtain ⟨Ao, co, rfl⟩ := rw_form h.os
  have hB : B ≤ w.heap.size := by have := h.hr; have := Bk.lt h.fr; omega
  have hos : Hid (w.ownsRow B 52 7 (.slice Ao f.ops.length co) f.ops.length (f.ops.flatMap opC)) := Lib.hid h.os
  have HH := Lib.hid h
  clear h
  go_enter Try.func19, Try.ntmps19
  go_wp2_with (at_builtin; refine wpList_appS1 (w := w) Try.opcsz rfl (.tmp 11) (.tmp 15) rfl B (.slice Ao f.ops.length co) f.ops.length (f.ops.flatMap opC) #[.int .i64 kind, .int .i64 item, .int .i64 1, .int .i64 (-1), .int .i64 (-1), .int .i64 0, .int .i64 0] rfl rfl rfl hos.out (by intro u hu; simp at hu; rcases hu with rfl | rfl | rfl | rfl | rfl <;> rfl) (by unfold maxLen; omega) (by omega) hB ?_)
  intro v' w1 h1 h2 h3
  obtain ⟨R1, F1, hfr⟩ := HH.out.growOps (o := ⟨kind, item, 1, -1, -1, 0, 0⟩) h1 h2
  obtain ⟨Ao', co', hv'⟩ := rw_form h1
  subst hv'
  have e0 := (Bk.cell hfr 3 : w1.cell? ⟨r, 3, none⟩ = some (.slice Ao f.ops.length co))
  have e1 := Bk.frozen hfr 3
  replace R1 := Lib.hid R1
  replace F1 := Lib.hid F1
  clear h1 h2 h3 a0 a1 a2 a3 b0 b1 b2 b3 hos HH hfr
  go_wp2
  go_ret
  exact ⟨⟨_, rfl⟩, ⟨_, R1.out⟩, F1.out⟩

end Go.Proofs.Ytokdalilnckkoaa
