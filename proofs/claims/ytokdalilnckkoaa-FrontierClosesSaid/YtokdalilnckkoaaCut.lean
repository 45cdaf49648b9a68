/- The steps of operations: cut. -/
import Derived.Test.YtokdalilnckkoaaPut
import Derived.StillTailTactics
namespace Go.Proofs.Ytokdalilnckkoaa
open Go.RowKit


set_option maxRecDepth 100000 in
set_option maxHeartbeats 800000 in
theorem cutI (o g K c : Nat) (top below : Option Nat) (x : Value) (res pd : Int) (w : World) (h : ObI w o g K (some c) false res) (hf : FrI w g top pd) (hc : ClI w c x below) (ht : PtI w top) (hbe : PtI w below) :
    Calls Try.prog 49 #[.pointer (some ⟨o, 0, none⟩)] w (PoI w o g [o, g] (decide (top = some c)) 34 (some c) false (if top = some c then 1 else res) (if top = some c then below else top) pd) := by
  have c0 := h.c0
  have c1 := h.c1
  have c2 := h.c2
  have c4 := h.c4
  have f1 : w.frozen? ⟨o, 1, none⟩ = false := Bk.frozen h 1
  have f4 : w.frozen? ⟨o, 4, none⟩ = false := Bk.frozen h 4
  have d1 : w.cell? ⟨c, 1, none⟩ = some (pv below) := (Bk.cell hc 1).trans rfl
  have hoc : ¬ o = c := Bk.ne h hc (by decide)
  have hco : ¬ c = o := fun e => hoc e.symm
  have hgo : ¬ g = o := Bk.ne hf h (by decide)
  have hog : ¬ o = g := fun e => hgo e.symm
  have k1 : FrI (w.setCell ⟨o, 1, none⟩ (nxt 34 o)) g top pd := Bk.other hf hgo _
  have k2 : ObI (w.setCell ⟨o, 1, none⟩ (nxt 34 o)) o g 34 (some c) false res := Bk.put h 1 _
  have HCS : Hid (Calls Try.prog 58 #[.pointer (some ⟨g, 0, none⟩), pv (some c), pv below] (w.setCell ⟨o, 1, none⟩ (nxt 34 o)).drew fun e w' => e = .returned (.bool (decide (top = some c))) ∧ (if decide (top = some c) then (w.setCell ⟨o, 1, none⟩ (nxt 34 o)).drew.setCell ⟨g, 0, none⟩ (pv below) else (w.setCell ⟨o, 1, none⟩ (nxt 34 o)).drew) = w') :=
    casI g top (some c) below pd (w.setCell ⟨o, 1, none⟩ (nxt 34 o)).drew k1 (ht.other h (by decide) 1 _) (PtI.other (fun c' e => by cases e; exact ⟨x, below, hc⟩) h (by decide) 1 _) (hbe.other h (by decide) 1 _)
  have k3 : ClI (w.setCell ⟨o, 1, none⟩ (nxt 34 o)) c x below := Bk.other hc hco _
  have e0 := k2.c0
  have e2 := k2.c2
  have e4 := k2.c4
  have ef : (w.setCell ⟨o, 1, none⟩ (nxt 34 o)).frozen? ⟨o, 4, none⟩ = false := Bk.frozen k2 4
  have ed : (w.setCell ⟨o, 1, none⟩ (nxt 34 o)).cell? ⟨c, 1, none⟩ = some (pv below) := (Bk.cell k3 1).trans rfl
  have HCH : Hid (Ch w (w.setCell ⟨o, 1, none⟩ (nxt 34 o)) [o, g]) := (Ch.refl w _).set (by simp) _
  have HK1 := Lib.hid k1
  have HK2 := Lib.hid k2
  clear h hf hc ht hbe k1 k2 k3
  unfold nxt at c1 HCS e0 e2 e4 ef ed HCH HK1 HK2
  rw [pv_some] at c2 HCS e2
  unfold pv at d1 HCS ed
  go_enter Try.func49, Try.ntmps49
  by_cases htop : top = some c
  · subst htop
    simp only [decide_true, if_true] at HCS ⊢
    have HBV : Hid (pv below = .pointer (below.map fun c => (⟨c, 0, none⟩ : Addr))) := rfl
    generalize (below.map fun c => (⟨c, 0, none⟩ : Addr)) = bv at *
    go_wp2_with fail
    generalize w.setCell ⟨o, 1, none⟩ (Value.func (Fn.func 34) #[Value.pointer (some ⟨o, 0, none⟩)] #[]) = wS at *
    clear c0 c1 c2 c4 f1 f4 d1
    go_still_tail 17, (by kernel_rfl)
    change wpList _ _ _ _ _ wS.drew
    go_wp2_with fail
    refine HCS.out.mono ?_
    rintro e w' ⟨rfl, rfl⟩
    have k4 : ObI (wS.setCell ⟨g, 0, none⟩ (.pointer bv)) o g 34 (some c) false res := Bk.other HK2.out hog _
    have k5 : FrI (wS.setCell ⟨g, 0, none⟩ (.pointer bv)) g below pd := by unfold FrI; rw [HBV.out]; exact Bk.put HK1.out 0 _
    have m4 := k4.c4
    have mf : (wS.setCell ⟨g, 0, none⟩ (.pointer bv)).frozen? ⟨o, 4, none⟩ = false := Bk.frozen k4 4
    have HK4 := Lib.hid k4
    have HK5 := Lib.hid k5
    clear k4 k5
    go_wp2
    go_ret
    exact ⟨rfl, Bk.put HK4.out 4 _, Bk.other HK5.out hgo _, (((HCH.out.set (by simp) _).set (by simp) _).drew)⟩
  · have hd : decide (top = some c) = false := by simpa using htop
    rw [hd] at HCS ⊢
    simp only [if_neg htop] at HCS ⊢
    generalize (below.map fun c => (⟨c, 0, none⟩ : Addr)) = bv at *
    go_wp2_with fail
    generalize w.setCell ⟨o, 1, none⟩ (Value.func (Fn.func 34) #[Value.pointer (some ⟨o, 0, none⟩)] #[]) = wS at *
    clear c0 c1 c2 c4 f1 f4 d1 hd
    go_still_tail 17, (by kernel_rfl)
    change wpList _ _ _ _ _ wS.drew
    go_wp2_with fail
    refine HCS.out.mono ?_
    rintro e w' ⟨rfl, rfl⟩
    go_wp2
    go_ret
    exact ⟨rfl, HK2.out, HK1.out, HCH.out.drew⟩

set_option maxRecDepth 100000 in
set_option maxHeartbeats 800000 in
theorem cutS (o g K c : Nat) (top below : Option Nat) (x : Value) (res pd : Int) (w : World) (h : ObS w o g K (some c) false res) (hf : FrS w g top pd) (hc : ClS w c x below) (ht : PtS w top) (hbe : PtS w below) :
    Calls Try.prog 54 #[.pointer (some ⟨o, 0, none⟩)] w (PoS w o g [o, g] (decide (top = some c)) 46 (some c) false (if top = some c then 1 else res) (if top = some c then below else top) pd) := by
  have c0 := h.c0
  have c1 := h.c1
  have c2 := h.c2
  have c4 := h.c4
  have f1 : w.frozen? ⟨o, 1, none⟩ = false := Bk.frozen h 1
  have f4 : w.frozen? ⟨o, 4, none⟩ = false := Bk.frozen h 4
  have d1 : w.cell? ⟨c, 1, none⟩ = some (pv below) := (Bk.cell hc 1).trans rfl
  have hoc : ¬ o = c := Bk.ne h hc (by decide)
  have hco : ¬ c = o := fun e => hoc e.symm
  have hgo : ¬ g = o := Bk.ne hf h (by decide)
  have hog : ¬ o = g := fun e => hgo e.symm
  have k1 : FrS (w.setCell ⟨o, 1, none⟩ (nxt 46 o)) g top pd := Bk.other hf hgo _
  have k2 : ObS (w.setCell ⟨o, 1, none⟩ (nxt 46 o)) o g 46 (some c) false res := Bk.put h 1 _
  have HCS : Hid (Calls Try.prog 60 #[.pointer (some ⟨g, 0, none⟩), pv (some c), pv below] (w.setCell ⟨o, 1, none⟩ (nxt 46 o)).drew fun e w' => e = .returned (.bool (decide (top = some c))) ∧ (if decide (top = some c) then (w.setCell ⟨o, 1, none⟩ (nxt 46 o)).drew.setCell ⟨g, 0, none⟩ (pv below) else (w.setCell ⟨o, 1, none⟩ (nxt 46 o)).drew) = w') :=
    casS g top (some c) below pd (w.setCell ⟨o, 1, none⟩ (nxt 46 o)).drew k1 (ht.other h (by decide) 1 _) (PtS.other (fun c' e => by cases e; exact ⟨x, below, hc⟩) h (by decide) 1 _) (hbe.other h (by decide) 1 _)
  have k3 : ClS (w.setCell ⟨o, 1, none⟩ (nxt 46 o)) c x below := Bk.other hc hco _
  have e0 := k2.c0
  have e2 := k2.c2
  have e4 := k2.c4
  have ef : (w.setCell ⟨o, 1, none⟩ (nxt 46 o)).frozen? ⟨o, 4, none⟩ = false := Bk.frozen k2 4
  have ed : (w.setCell ⟨o, 1, none⟩ (nxt 46 o)).cell? ⟨c, 1, none⟩ = some (pv below) := (Bk.cell k3 1).trans rfl
  have HCH : Hid (Ch w (w.setCell ⟨o, 1, none⟩ (nxt 46 o)) [o, g]) := (Ch.refl w _).set (by simp) _
  have HK1 := Lib.hid k1
  have HK2 := Lib.hid k2
  clear h hf hc ht hbe k1 k2 k3
  unfold nxt at c1 HCS e0 e2 e4 ef ed HCH HK1 HK2
  rw [pv_some] at c2 HCS e2
  unfold pv at d1 HCS ed
  go_enter Try.func54, Try.ntmps54
  by_cases htop : top = some c
  · subst htop
    simp only [decide_true, if_true] at HCS ⊢
    have HBV : Hid (pv below = .pointer (below.map fun c => (⟨c, 0, none⟩ : Addr))) := rfl
    generalize (below.map fun c => (⟨c, 0, none⟩ : Addr)) = bv at *
    go_wp2_with fail
    generalize w.setCell ⟨o, 1, none⟩ (Value.func (Fn.func 46) #[Value.pointer (some ⟨o, 0, none⟩)] #[]) = wS at *
    clear c0 c1 c2 c4 f1 f4 d1
    go_still_tail 17, (by kernel_rfl)
    change wpList _ _ _ _ _ wS.drew
    go_wp2_with fail
    refine HCS.out.mono ?_
    rintro e w' ⟨rfl, rfl⟩
    have k4 : ObS (wS.setCell ⟨g, 0, none⟩ (.pointer bv)) o g 46 (some c) false res := Bk.other HK2.out hog _
    have k5 : FrS (wS.setCell ⟨g, 0, none⟩ (.pointer bv)) g below pd := by unfold FrS; rw [HBV.out]; exact Bk.put HK1.out 0 _
    have m4 := k4.c4
    have mf : (wS.setCell ⟨g, 0, none⟩ (.pointer bv)).frozen? ⟨o, 4, none⟩ = false := Bk.frozen k4 4
    have HK4 := Lib.hid k4
    have HK5 := Lib.hid k5
    clear k4 k5
    go_wp2
    go_ret
    exact ⟨rfl, Bk.put HK4.out 4 _, Bk.other HK5.out hgo _, (((HCH.out.set (by simp) _).set (by simp) _).drew)⟩
  · have hd : decide (top = some c) = false := by simpa using htop
    rw [hd] at HCS ⊢
    simp only [if_neg htop] at HCS ⊢
    generalize (below.map fun c => (⟨c, 0, none⟩ : Addr)) = bv at *
    go_wp2_with fail
    generalize w.setCell ⟨o, 1, none⟩ (Value.func (Fn.func 46) #[Value.pointer (some ⟨o, 0, none⟩)] #[]) = wS at *
    clear c0 c1 c2 c4 f1 f4 d1 hd
    go_still_tail 17, (by kernel_rfl)
    change wpList _ _ _ _ _ wS.drew
    go_wp2_with fail
    refine HCS.out.mono ?_
    rintro e w' ⟨rfl, rfl⟩
    go_wp2
    go_ret
    exact ⟨rfl, HK2.out, HK1.out, HCH.out.drew⟩

end Go.Proofs.Ytokdalilnckkoaa
