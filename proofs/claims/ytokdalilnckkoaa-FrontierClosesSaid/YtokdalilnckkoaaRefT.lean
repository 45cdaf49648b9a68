/- The reference's take, walked. -/
import Derived.Test.YtokdalilnckkoaaRefM
import Derived.StillTailTactics
import Derived.Deep.QuietTactic
import Derived.BigQuiet
namespace Go.Proofs.Ytokdalilnckkoaa
open Go.RowKit Go.Shelf

attribute [local go_sem] Oper.semAt_some

section
variable {w : World} {B r go co i : Nat} {f : RF} {vc vo : Value} {o : ROp}
/-- The cells of the frontier. -/
theorem Rf.hd (h : Rf w B r f vc vo) : w.cell? ⟨r, 0, none⟩ = some vc ∧ w.cell? ⟨r, 1, none⟩ = some (.int .i64 f.top) ∧ w.cell? ⟨r, 2, none⟩ = some (.int .i64 f.pd) ∧ w.cell? ⟨r, 3, none⟩ = some vo ∧
    w.frozen? ⟨r, 0, none⟩ = false ∧ w.frozen? ⟨r, 1, none⟩ = false ∧ w.frozen? ⟨r, 2, none⟩ = false ∧ w.frozen? ⟨r, 3, none⟩ = false := by
  have hc := fun k => Bk.cell h.fr k
  have hf := fun k => Bk.frozen h.fr k
  exact ⟨hc 0, hc 1, hc 2, hc 3, hf 0, hf 1, hf 2, hf 3⟩
/-- The cells of an operation. -/
theorem Rf.oc (h : Rf w B r f vc (.slice (some ⟨go, 0, none⟩) f.ops.length co)) (hi : f.ops[i]? = some o) {q : Nat} (hq : i * 7 = q) :
    w.cell? ⟨go, q, none⟩ = some (.int .i64 o.kind) ∧ w.cell? ⟨go, q + 1, none⟩ = some (.int .i64 o.item) ∧ w.cell? ⟨go, q + 2, none⟩ = some (.int .i64 o.pc) ∧ w.cell? ⟨go, q + 3, none⟩ = some (.int .i64 o.cell) ∧
    w.cell? ⟨go, q + 4, none⟩ = some (.int .i64 o.read) ∧ w.cell? ⟨go, q + 5, none⟩ = some (.int .i64 o.got) ∧ w.cell? ⟨go, q + 6, none⟩ = some (.int .i64 o.res) ∧ ∀ j, w.frozen? ⟨go, j, none⟩ = false := by
  subst hq
  obtain ⟨cur, hcur⟩ := rw_bk h.os go rfl
  exact ⟨row_cell opC_len h.os hi (j := 0) (by omega), row_cell opC_len h.os hi (j := 1) (by omega), row_cell opC_len h.os hi (j := 2) (by omega), row_cell opC_len h.os hi (j := 3) (by omega), row_cell opC_len h.os hi (j := 4) (by omega), row_cell opC_len h.os hi (j := 5) (by omega), row_cell opC_len h.os hi (j := 6) (by omega), fun j => Bk.frozen hcur j⟩
theorem Rf.cc {gc cc k : Nat} {p : Int × Int} (h : Rf w B r f (.slice (some ⟨gc, 0, none⟩) f.cells.length cc) vo) (hi : f.cells[k]? = some p) :
    w.cell? ⟨gc, k * 2, none⟩ = some (.int .i64 p.1) ∧ w.cell? ⟨gc, k * 2 + 1, none⟩ = some (.int .i64 p.2) ∧ ∀ j, w.frozen? ⟨gc, j, none⟩ = false := by
  obtain ⟨cur, hcur⟩ := rw_bk h.cs gc rfl
  exact ⟨row_cell cellC_len h.cs hi (j := 0) (by omega), row_cell cellC_len h.cs hi (j := 1) (by omega), fun j => Bk.frozen hcur j⟩
end

/-- The frontier f at r, the operation i of which is now o. -/
structure Rs (w0 : World) (B r : Nat) (f : RF) (vc : Value) (go n co i q : Nat) (o : ROp) (w : World) : Prop where
  rf : Rf w B r { f with ops := f.ops.set i o } vc (.slice (some ⟨go, 0, none⟩) n co)
  hi : i < f.ops.length
  len : f.ops.length = n
  hq : i * 7 = q
  fm : FmR B w0 w

section
variable {w0 w : World} {B r go n co i q : Nat} {f : RF} {vc : Value} {o o' : ROp}
theorem Rs.start (h : Rf w B r f vc (.slice (some ⟨go, 0, none⟩) n co)) (hi : f.ops[i]? = some o) (hn : f.ops.length = n) (hq : i * 7 = q) : Rs w B r f vc go n co i q o w := by
  obtain ⟨hl, e⟩ := List.getElem?_eq_some_iff.1 hi
  have : f.ops.set i o = f.ops := by rw [← e, List.set_getElem_self hl]
  refine ⟨?_, hl, hn, hq, FmR.refl _ _⟩
  rw [this]
  exact h
theorem Rs.at (h : Rs w0 B r f vc go n co i q o w) : ({ f with ops := f.ops.set i o } : RF).ops[i]? = some o := List.getElem?_set_self h.hi
theorem Rs.rf' (h : Rs w0 B r f vc go n co i q o w) : Rf w B r { f with ops := f.ops.set i o } vc (.slice (some ⟨go, 0, none⟩) ({ f with ops := f.ops.set i o } : RF).ops.length co) := by
  have e : ({ f with ops := f.ops.set i o } : RF).ops.length = n := by rw [← h.len]; simp
  rw [e]
  exact h.rf
theorem Rs.op (h : Rs w0 B r f vc go n co i q o w) {j : Nat} {x : Value} (hj : j < 7) (hx : (opC o).set j x = opC o') : Rs w0 B r f vc go n co i q o' (w.setCell ⟨go, q + j, none⟩ x) := by
  have h1 := h.rf'.op h.at hj hx
  have e : ({ f with ops := f.ops.set i o } : RF).ops.length = n := by rw [← h.len]; simp
  rw [e] at h1
  simp only [List.set_set] at h1
  have hlt := rw_lt h.rf.os go rfl
  obtain ⟨cu, hcu⟩ := rw_bk h.rf.os go rfl
  rw [h.hq] at h1
  exact ⟨h1, h.hi, h.len, h.hq, h.fm.set hcu (.inr (.inr rfl)) hlt.1 _⟩
theorem Rs.top (h : Rs w0 B r f vc go n co i q o w) (t : Int) : Rs w0 B r { f with top := t } vc go n co i q o (w.setCell ⟨r, 1, none⟩ (.int .i64 t)) :=
  ⟨h.rf.head (i := 1) rfl, h.hi, h.len, h.hq, h.fm.set h.rf.fr (.inl rfl) h.rf.hr _⟩
theorem Rs.pd (h : Rs w0 B r f vc go n co i q o w) (t : Int) : Rs w0 B r { f with pd := t } vc go n co i q o (w.setCell ⟨r, 2, none⟩ (.int .i64 t)) :=
  ⟨h.rf.head (i := 2) rfl, h.hi, h.len, h.hq, h.fm.set h.rf.fr (.inl rfl) h.rf.hr _⟩
theorem Rs.cell {gc cc k j : Nat} {p p' : Int × Int} {x : Value} (h : Rs w0 B r f (.slice (some ⟨gc, 0, none⟩) f.cells.length cc) go n co i q o w) (hk : f.cells[k]? = some p) (hj : j < 2) (hx : (cellC p).set j x = cellC p') :
    Rs w0 B r { f with cells := f.cells.set k p' } (.slice (some ⟨gc, 0, none⟩) f.cells.length cc) go n co i q o (w.setCell ⟨gc, k * 2 + j, none⟩ x) := by
  obtain ⟨cu, hcu⟩ := rw_bk h.rf.cs gc rfl
  exact ⟨h.rf.cell hk hj hx, h.hi, h.len, h.hq, h.fm.set hcu (.inr (.inl rfl)) (rw_lt h.rf.cs gc rfl).1 _⟩
theorem FmR.drewN {B : Nat} {w w' : World} (h : FmR B w w') (k : Nat) : FmR B w (w'.drewN k) := ⟨below_drewN h.bel k, h.keep⟩
theorem Rs.drewN (h : Rs w0 B r f vc go n co i q o w) (k : Nat) : Rs w0 B r f vc go n co i q o (w.drewN k) := ⟨⟨h.rf.fr, h.rf.cs, h.rf.os, h.rf.hr⟩, h.hi, h.len, h.hq, h.fm.drewN k⟩
theorem Rs.drew (h : Rs w0 B r f vc go n co i q o w) : Rs w0 B r f vc go n co i q o w.drew := h.drewN 1
theorem Rs.ne (h : Rs w0 B r f vc go n co i q o w) : ¬ r = go := fun e => h.rf.neo (by rw [e]; rfl)
theorem Rs.hd (h : Rs w0 B r f vc go n co i q o w) : w.cell? ⟨r, 0, none⟩ = some vc ∧ w.cell? ⟨r, 1, none⟩ = some (.int .i64 f.top) ∧ w.cell? ⟨r, 2, none⟩ = some (.int .i64 f.pd) ∧
    w.frozen? ⟨r, 0, none⟩ = false ∧ w.frozen? ⟨r, 1, none⟩ = false ∧ w.frozen? ⟨r, 2, none⟩ = false := by
  obtain ⟨a0, a1, a2, a3, b0, b1, b2, b3⟩ := h.rf.hd
  exact ⟨a0, a1, a2, b0, b1, b2⟩
theorem Rs.oc (h : Rs w0 B r f vc go n co i q o w) :
    w.cell? ⟨go, q, none⟩ = some (.int .i64 o.kind) ∧ w.cell? ⟨go, q + 1, none⟩ = some (.int .i64 o.item) ∧ w.cell? ⟨go, q + 2, none⟩ = some (.int .i64 o.pc) ∧ w.cell? ⟨go, q + 3, none⟩ = some (.int .i64 o.cell) ∧
    w.cell? ⟨go, q + 4, none⟩ = some (.int .i64 o.read) ∧ w.cell? ⟨go, q + 5, none⟩ = some (.int .i64 o.got) ∧ w.cell? ⟨go, q + 6, none⟩ = some (.int .i64 o.res) ∧
    w.frozen? ⟨go, q + 2, none⟩ = false ∧ w.frozen? ⟨go, q + 3, none⟩ = false ∧ w.frozen? ⟨go, q + 4, none⟩ = false ∧ w.frozen? ⟨go, q + 5, none⟩ = false ∧ w.frozen? ⟨go, q + 6, none⟩ = false := by
  obtain ⟨c0, c1, c2, c3, c4, c5, c6, cf⟩ := h.rf'.oc h.at h.hq
  exact ⟨c0, c1, c2, c3, c4, c5, c6, cf _, cf _, cf _, cf _, cf _⟩
theorem Rs.cc {gc L cc k : Nat} {p : Int × Int} (h : Rs w0 B r f (.slice (some ⟨gc, 0, none⟩) L cc) go n co i q o w) (hL : f.cells.length = L) (hk : f.cells[k]? = some p) :
    w.cell? ⟨gc, k * 2, none⟩ = some (.int .i64 p.1) ∧ w.cell? ⟨gc, k * 2 + 1, none⟩ = some (.int .i64 p.2) ∧ w.frozen? ⟨gc, k * 2 + 1, none⟩ = false := by
  subst hL
  obtain ⟨d0, d1, d2⟩ := h.rf.cc hk
  exact ⟨d0, d1, d2 _⟩
end

set_option maxRecDepth 100000 in
set_option maxHeartbeats 1000000 in
theorem rtake_any (w : World) (B r go n co i q : Nat) (f : RF) (vc : Value) (o : ROp) (h : Rf w B r f vc (.slice (some ⟨go, 0, none⟩) n co)) (hi : f.ops[i]? = some o) (hn : f.ops.length = n) (hq : i * 7 = q) (hok : o.pc = 2 → 0 ≤ o.read ∧ o.read < f.cells.length) :
    Calls Try.prog 41 #[.pointer (some ⟨r, 0, none⟩), .pointer (some ⟨go, q, none⟩)] w fun e w' => (∃ v, e = .returned v) ∧ Rs w B r (rtake f o).1 vc go n co i q (rtake f o).2 w' := by
  have R := Rs.start h hi hn hq
  clear h hi hn hq
  obtain ⟨a0, a1, a2, b0, b1, b2⟩ := R.hd
  obtain ⟨c0, c1, c2, c3, c4, c5, c6, f2, f3, f4, f5, f6⟩ := R.oc
  have hne : ¬ r = go := R.ne
  have hne' : ¬ go = r := fun e => hne e.symm
  obtain ⟨kind, item, pc, cell, read, got, res⟩ := o
  dsimp only at c0 c1 c2 c3 c4 c5 c6 hok
  replace R := Lib.hid R
  replace hok := Lib.hid hok
  by_cases h1 : pc = 1
  · subst h1
    by_cases ht : f.top < 0
    · have HT := Lib.hid (show rtake f ⟨kind, item, 1, cell, read, got, res⟩ = (f, ⟨kind, item, 3, cell, f.top, got, res⟩) by simp [rtake, ht])
      rw [HT.out]
      go_enter Try.func41, Try.ntmps41
      go_wp2
      go_end0
      exact ⟨⟨_, rfl⟩, ((R.out.op (j := 4) (o' := ⟨kind, item, 1, cell, f.top, got, res⟩) (by decide) rfl).op (j := 2) (o' := ⟨kind, item, 2, cell, f.top, got, res⟩) (by decide) rfl).op (j := 2) (by decide) rfl⟩
    · have HT := Lib.hid (show rtake f ⟨kind, item, 1, cell, read, got, res⟩ = (f, ⟨kind, item, 2, cell, f.top, got, res⟩) by simp [rtake, ht])
      rw [HT.out]
      go_enter Try.func41, Try.ntmps41
      go_wp2
      go_end0
      exact ⟨⟨_, rfl⟩, (R.out.op (j := 4) (o' := ⟨kind, item, 1, cell, f.top, got, res⟩) (by decide) rfl).op (j := 2) (by decide) rfl⟩
  by_cases h2 : pc = 2
  · subst h2
    have R1 := R.out.op (j := 2) (x := .int .i64 1) (o' := ⟨kind, item, 1, cell, read, got, res⟩) (by decide) rfl
    by_cases ht : f.top = read
    · obtain ⟨hr0, hr1⟩ := hok.out rfl
      obtain ⟨k, rfl⟩ := Int.eq_ofNat_of_zero_le hr0
      have hkl : k < f.cells.length := by omega
      obtain ⟨⟨it, nx⟩, hkc⟩ : ∃ p, f.cells[k]? = some p := ⟨_, List.getElem?_eq_getElem hkl⟩
      have HT := Lib.hid (show rtake f ⟨kind, item, 2, cell, k, got, res⟩ = ({ f with top := nx }, ⟨kind, item, 0, cell, k, it, 1⟩) by simp [rtake, ht, List.getD_eq_getElem?_getD, hkc])
      rw [HT.out]
      obtain ⟨gc, cc, rfl, hnc⟩ : ∃ gc cc, vc = .slice (some ⟨gc, 0, none⟩) f.cells.length cc ∧ ¬ gc = go := by
        have hcs : w.ownsRow B 109 2 vc f.cells.length (f.cells.flatMap cellC) := R.out.rf.cs
        have hn := R.out.rf.nco
        rcases hcs.2 with ⟨_, h0⟩ | ⟨g, cap, cur, rfl, _⟩
        · omega
        · exact ⟨g, cap, rfl, fun e => hn g rfl (by rw [e]; rfl)⟩
      generalize hL : f.cells.length = L at *
      replace hL := Lib.hid hL
      replace hkc := Lib.hid hkc
      have hkL : (k : Int) < L := by omega
      go_enter Try.func41, Try.ntmps41
      go_wp2
      generalize w.setCell ⟨go, q + 2, none⟩ (.int .i64 1) = w1 at *
      clear a0 a1 a2 b0 b1 b2 c0 c1 c2 c3 c4 c5 c6 f2 f3 f4 f5 f6
      obtain ⟨a0, a1, a2, b0, b1, b2⟩ := R1.hd
      obtain ⟨c0, c1, c2, c3, c4, c5, c6, f2, f3, f4, f5, f6⟩ := R1.oc
      dsimp only at c0 c1 c2 c3 c4 c5 c6
      rw [ht] at a1
      replace R1 := Lib.hid R1
      go_quiet (fail)
      go_wp2
      have R2 := R1.out.drewN nq
      generalize w1.drewN nq = w2 at *
      clear a0 a1 a2 b0 b1 b2 c0 c1 c2 c3 c4 c5 c6 f2 f3 f4 f5 f6 R1
      obtain ⟨a0, a1, a2, b0, b1, b2⟩ := R2.hd
      obtain ⟨c0, c1, c2, c3, c4, c5, c6, f2, f3, f4, f5, f6⟩ := R2.oc
      obtain ⟨d0, d1, _⟩ := R2.cc hL.out hkc.out
      dsimp only at c0 c1 c2 c3 c4 c5 c6
      rw [ht] at a1
      replace R2 := Lib.hid R2
      go_still_tail 14, (by kernel_rfl)
      change wpList _ _ _ _ _ w2.drew
      go_wp2
      have R3 := ((R2.out.op (j := 5) (x := .int .i64 it) (o' := ⟨kind, item, 1, cell, k, it, res⟩) (by decide) rfl).op (j := 6) (x := .int .i64 1) (o' := ⟨kind, item, 1, cell, k, it, 1⟩) (by decide) rfl).drew
      generalize ((w2.setCell ⟨go, q + 5, none⟩ (.int .i64 it)).setCell ⟨go, q + 6, none⟩ (.int .i64 1)).drew = w3 at *
      clear a0 a1 a2 b0 b1 b2 c0 c1 c2 c3 c4 c5 c6 f2 f3 f4 f5 f6 d0 d1 R2
      obtain ⟨a0, a1, a2, b0, b1, b2⟩ := R3.hd
      obtain ⟨c0, c1, c2, c3, c4, c5, c6, f2, f3, f4, f5, f6⟩ := R3.oc
      obtain ⟨d0, d1, _⟩ := R3.cc hL.out hkc.out
      dsimp only at c0 c1 c2 c3 c4 c5 c6 d0 d1
      replace R3 := Lib.hid R3
      go_still_tail 14, (by kernel_rfl)
      change wpList _ _ _ _ _ w3.drew
      go_wp2
      go_end0
      exact ⟨⟨_, rfl⟩, (((R3.out.top nx).op (j := 2) (o' := ⟨kind, item, 0, cell, k, it, 1⟩) (by decide) rfl)).drew⟩
    · have ht' : (f.top == read) = false := by simpa using ht
      have HT := Lib.hid (show rtake f ⟨kind, item, 2, cell, read, got, res⟩ = (f, ⟨kind, item, 1, cell, read, got, res⟩) by simp [rtake, ht])
      rw [HT.out]
      go_enter Try.func41, Try.ntmps41
      go_wp2
      generalize w.setCell ⟨go, q + 2, none⟩ (.int .i64 1) = w1 at *
      clear a0 a1 a2 b0 b1 b2 c0 c1 c2 c3 c4 c5 c6 f2 f3 f4 f5 f6
      obtain ⟨a0, a1, a2, b0, b1, b2⟩ := R1.hd
      obtain ⟨c0, c1, c2, c3, c4, c5, c6, f2, f3, f4, f5, f6⟩ := R1.oc
      dsimp only at c0 c1 c2 c3 c4 c5 c6
      replace R1 := Lib.hid R1
      go_quiet (fail)
      go_wp2
      go_end0
      exact ⟨⟨_, rfl⟩, R1.out.drewN _⟩
  have e1 : (pc == 1) = false := by simpa using h1
  have e2 : (pc == 2) = false := by simpa using h2
  by_cases hp : f.pd = 0
  · have hp' : (f.pd == 0) = true := by simpa using hp
    have HT := Lib.hid (show rtake f ⟨kind, item, pc, cell, read, got, res⟩ = (f, ⟨kind, item, 0, cell, read, got, 3⟩) by simp [rtake, h1, h2, hp])
    rw [HT.out]
    go_enter Try.func41, Try.ntmps41
    go_wp2
    go_end0
    exact ⟨⟨_, rfl⟩, ((R.out.op (j := 6) (o' := ⟨kind, item, pc, cell, read, got, 2⟩) (by decide) rfl).op (j := 6) (o' := ⟨kind, item, pc, cell, read, got, 3⟩) (by decide) rfl).op (j := 2) (by decide) rfl⟩
  · have hp' : (f.pd == 0) = false := by simpa using hp
    have HT := Lib.hid (show rtake f ⟨kind, item, pc, cell, read, got, res⟩ = (f, ⟨kind, item, 0, cell, read, got, 2⟩) by simp [rtake, h1, h2, hp])
    rw [HT.out]
    go_enter Try.func41, Try.ntmps41
    go_wp2
    go_end0
    exact ⟨⟨_, rfl⟩, (R.out.op (j := 6) (o' := ⟨kind, item, pc, cell, read, got, 2⟩) (by decide) rfl).op (j := 2) (by decide) rfl⟩

end Go.Proofs.Ytokdalilnckkoaa
