/- The steps of operations: look, count, report. -/
import Derived.Test.YtokdalilnckkoaaCut
namespace Go.Proofs.Ytokdalilnckkoaa
open Go.RowKit


theorem eqlpnI (a : Addr) (w : World) : (binOp .eql 68 (.pointer (some a)) (.pointer none)).run Try.prog w = .ok (.bool false) w := by kernel_rfl

set_option maxHeartbeats 400000 in
theorem lookI (o g K : Nat) (at_ top : Option Nat) (res pd : Int) (w : World) (h : ObI w o g K at_ false res) (hf : FrI w g top pd) (ht : PtI w top) :
    Calls Try.prog 34 #[.pointer (some ⟨o, 0, none⟩)] w (PoI w o g [o, g] false (if top = none then 50 else 49) top false res top pd) := by
  have c0 := h.c0
  have c1 := h.c1
  have c2 := h.c2
  have f1 : w.frozen? ⟨o, 1, none⟩ = false := Bk.frozen h 1
  have f2 : w.frozen? ⟨o, 2, none⟩ = false := Bk.frozen h 2
  have hgo : ¬ g = o := Bk.ne hf h (by decide)
  have H := Lib.hid (loadI g top pd w hf ht)
  have k1 : ObI (w.setCell ⟨o, 2, none⟩ (pv top)) o g K top false res := Bk.put h 2 _
  have k2 : ObI ((w.setCell ⟨o, 2, none⟩ (pv top)).setCell ⟨o, 1, none⟩ (nxt 49 o)) o g 49 top false res := Bk.put k1 1 _
  have k3 : ObI (((w.setCell ⟨o, 2, none⟩ (pv top)).setCell ⟨o, 1, none⟩ (nxt 49 o)).setCell ⟨o, 1, none⟩ (nxt 50 o)) o g 50 top false res := Bk.put k2 1 _
  have m1 : FrI (w.setCell ⟨o, 2, none⟩ (pv top)) g top pd := Bk.other hf hgo _
  have m2 : FrI ((w.setCell ⟨o, 2, none⟩ (pv top)).setCell ⟨o, 1, none⟩ (nxt 49 o)) g top pd := Bk.other m1 hgo _
  have m3 : FrI (((w.setCell ⟨o, 2, none⟩ (pv top)).setCell ⟨o, 1, none⟩ (nxt 49 o)).setCell ⟨o, 1, none⟩ (nxt 50 o)) g top pd := Bk.other m2 hgo _
  have HK2 := Lib.hid k2
  have HK3 := Lib.hid k3
  have HM2 := Lib.hid m2
  have HM3 := Lib.hid m3
  clear h hf ht k1 k2 k3 m1 m2 m3
  unfold nxt at c1 HK2 HK3 HM2 HM3
  have c2 : w.cell? ⟨o, 2, none⟩ = some (.pointer (at_.map fun c => ⟨c, 0, none⟩)) := c2
  generalize (at_.map fun c => (⟨c, 0, none⟩ : Addr)) = av at *
  cases top with
  | none =>
    rw [pv_none] at H HK3 HM3
    simp only [if_true]
    go_enter Try.func34, Try.ntmps34
    go_wp2_with fail
    refine H.out.mono ?_
    rintro e w' ⟨rfl, rfl⟩
    go_wp2
    go_ret
    exact ⟨rfl, HK3.out, HM3.out, (((Ch.refl w _).set (by simp) _).set (by simp) _).set (by simp) _⟩
  | some c =>
    rw [pv_some] at H HK2 HM2
    have hne : (some c = none) = False := by simp
    simp only [hne, if_false]
    have heq := eqlpnI ⟨c, 0, none⟩
    go_enter Try.func34, Try.ntmps34
    go_wp2_with fail
    refine H.out.mono ?_
    rintro e w' ⟨rfl, rfl⟩
    go_wp2
    go_ret
    exact ⟨rfl, HK2.out, HM2.out, ((Ch.refl w _).set (by simp) _).set (by simp) _⟩

set_option maxHeartbeats 400000 in
theorem countI (o g K : Nat) (at_ top : Option Nat) (res pd : Int) (w : World) (h : ObI w o g K at_ false res) (hf : FrI w g top pd) :
    Calls Try.prog 50 #[.pointer (some ⟨o, 0, none⟩)] w (PoI w o g [o, g] true K at_ false (if pd = 0 then 3 else 2) top pd) := by
  have c0 := h.c0
  have c4 := h.c4
  have f4 : w.frozen? ⟨o, 4, none⟩ = false := Bk.frozen h 4
  have hgo : ¬ g = o := Bk.ne hf h (by decide)
  have hog : ¬ o = g := fun e => hgo e.symm
  have k1 : ObI (w.setCell ⟨o, 4, none⟩ (.int .i64 2)) o g K at_ false 2 := Bk.put h 4 _
  have k2 : ObI ((w.setCell ⟨o, 4, none⟩ (.int .i64 2)).setCell ⟨o, 4, none⟩ (.int .i64 3)) o g K at_ false 3 := Bk.put k1 4 _
  have m1 : FrI (w.setCell ⟨o, 4, none⟩ (.int .i64 2)) g top pd := Bk.other hf hgo _
  have m2 : FrI ((w.setCell ⟨o, 4, none⟩ (.int .i64 2)).setCell ⟨o, 4, none⟩ (.int .i64 3)) g top pd := Bk.other m1 hgo _
  have H := Lib.hid (load64_any g _ _ pd _ m1)
  have HK1 := Lib.hid k1
  have HK2 := Lib.hid k2
  have HM1 := Lib.hid m1
  have HM2 := Lib.hid m2
  clear h hf k1 k2 m1 m2
  by_cases hp : pd = 0
  · subst hp
    simp only [if_true]
    go_enter Try.func50, Try.ntmps50
    go_wp2_with fail
    refine H.out.mono ?_
    rintro e w' ⟨rfl, rfl⟩
    go_wp2
    go_ret
    exact ⟨rfl, HK2.out, HM2.out, ((Ch.refl w _).set (by simp) _).set (by simp) _⟩
  · rw [if_neg hp]
    have hp' : (pd == 0) = false := by rw [beq_eq_false_iff_ne]; exact hp
    go_enter Try.func50, Try.ntmps50
    go_wp2_with fail
    refine H.out.mono ?_
    rintro e w' ⟨rfl, rfl⟩
    go_wp2
    go_ret
    exact ⟨rfl, HK1.out, HM1.out, (Ch.refl w _).set (by simp) _⟩


theorem eqlpnS (a : Addr) (w : World) : (binOp .eql 89 (.pointer (some a)) (.pointer none)).run Try.prog w = .ok (.bool false) w := by kernel_rfl

set_option maxHeartbeats 400000 in
theorem lookS (o g K : Nat) (at_ top : Option Nat) (res pd : Int) (w : World) (h : ObS w o g K at_ false res) (hf : FrS w g top pd) (ht : PtS w top) :
    Calls Try.prog 46 #[.pointer (some ⟨o, 0, none⟩)] w (PoS w o g [o, g] false (if top = none then 55 else 54) top false res top pd) := by
  have c0 := h.c0
  have c1 := h.c1
  have c2 := h.c2
  have f1 : w.frozen? ⟨o, 1, none⟩ = false := Bk.frozen h 1
  have f2 : w.frozen? ⟨o, 2, none⟩ = false := Bk.frozen h 2
  have hgo : ¬ g = o := Bk.ne hf h (by decide)
  have H := Lib.hid (loadS g top pd w hf ht)
  have k1 : ObS (w.setCell ⟨o, 2, none⟩ (pv top)) o g K top false res := Bk.put h 2 _
  have k2 : ObS ((w.setCell ⟨o, 2, none⟩ (pv top)).setCell ⟨o, 1, none⟩ (nxt 54 o)) o g 54 top false res := Bk.put k1 1 _
  have k3 : ObS (((w.setCell ⟨o, 2, none⟩ (pv top)).setCell ⟨o, 1, none⟩ (nxt 54 o)).setCell ⟨o, 1, none⟩ (nxt 55 o)) o g 55 top false res := Bk.put k2 1 _
  have m1 : FrS (w.setCell ⟨o, 2, none⟩ (pv top)) g top pd := Bk.other hf hgo _
  have m2 : FrS ((w.setCell ⟨o, 2, none⟩ (pv top)).setCell ⟨o, 1, none⟩ (nxt 54 o)) g top pd := Bk.other m1 hgo _
  have m3 : FrS (((w.setCell ⟨o, 2, none⟩ (pv top)).setCell ⟨o, 1, none⟩ (nxt 54 o)).setCell ⟨o, 1, none⟩ (nxt 55 o)) g top pd := Bk.other m2 hgo _
  have HK2 := Lib.hid k2
  have HK3 := Lib.hid k3
  have HM2 := Lib.hid m2
  have HM3 := Lib.hid m3
  clear h hf ht k1 k2 k3 m1 m2 m3
  unfold nxt at c1 HK2 HK3 HM2 HM3
  have c2 : w.cell? ⟨o, 2, none⟩ = some (.pointer (at_.map fun c => ⟨c, 0, none⟩)) := c2
  generalize (at_.map fun c => (⟨c, 0, none⟩ : Addr)) = av at *
  cases top with
  | none =>
    rw [pv_none] at H HK3 HM3
    simp only [if_true]
    go_enter Try.func46, Try.ntmps46
    go_wp2_with fail
    refine H.out.mono ?_
    rintro e w' ⟨rfl, rfl⟩
    go_wp2
    go_ret
    exact ⟨rfl, HK3.out, HM3.out, (((Ch.refl w _).set (by simp) _).set (by simp) _).set (by simp) _⟩
  | some c =>
    rw [pv_some] at H HK2 HM2
    have hne : (some c = none) = False := by simp
    simp only [hne, if_false]
    have heq := eqlpnS ⟨c, 0, none⟩
    go_enter Try.func46, Try.ntmps46
    go_wp2_with fail
    refine H.out.mono ?_
    rintro e w' ⟨rfl, rfl⟩
    go_wp2
    go_ret
    exact ⟨rfl, HK2.out, HM2.out, ((Ch.refl w _).set (by simp) _).set (by simp) _⟩

set_option maxHeartbeats 400000 in
theorem countS (o g K : Nat) (at_ top : Option Nat) (res pd : Int) (w : World) (h : ObS w o g K at_ false res) (hf : FrS w g top pd) :
    Calls Try.prog 55 #[.pointer (some ⟨o, 0, none⟩)] w (PoS w o g [o, g] true K at_ false (if pd = 0 then 3 else 2) top pd) := by
  have c0 := h.c0
  have c4 := h.c4
  have f4 : w.frozen? ⟨o, 4, none⟩ = false := Bk.frozen h 4
  have hgo : ¬ g = o := Bk.ne hf h (by decide)
  have hog : ¬ o = g := fun e => hgo e.symm
  have k1 : ObS (w.setCell ⟨o, 4, none⟩ (.int .i64 2)) o g K at_ false 2 := Bk.put h 4 _
  have k2 : ObS ((w.setCell ⟨o, 4, none⟩ (.int .i64 2)).setCell ⟨o, 4, none⟩ (.int .i64 3)) o g K at_ false 3 := Bk.put k1 4 _
  have m1 : FrS (w.setCell ⟨o, 4, none⟩ (.int .i64 2)) g top pd := Bk.other hf hgo _
  have m2 : FrS ((w.setCell ⟨o, 4, none⟩ (.int .i64 2)).setCell ⟨o, 4, none⟩ (.int .i64 3)) g top pd := Bk.other m1 hgo _
  have H := Lib.hid (load64_any g _ _ pd _ m1)
  have HK1 := Lib.hid k1
  have HK2 := Lib.hid k2
  have HM1 := Lib.hid m1
  have HM2 := Lib.hid m2
  clear h hf k1 k2 m1 m2
  by_cases hp : pd = 0
  · subst hp
    simp only [if_true]
    go_enter Try.func55, Try.ntmps55
    go_wp2_with fail
    refine H.out.mono ?_
    rintro e w' ⟨rfl, rfl⟩
    go_wp2
    go_ret
    exact ⟨rfl, HK2.out, HM2.out, ((Ch.refl w _).set (by simp) _).set (by simp) _⟩
  · rw [if_neg hp]
    have hp' : (pd == 0) = false := by rw [beq_eq_false_iff_ne]; exact hp
    go_enter Try.func55, Try.ntmps55
    go_wp2_with fail
    refine H.out.mono ?_
    rintro e w' ⟨rfl, rfl⟩
    go_wp2
    go_ret
    exact ⟨rfl, HK1.out, HM1.out, (Ch.refl w _).set (by simp) _⟩


end Go.Proofs.Ytokdalilnckkoaa
