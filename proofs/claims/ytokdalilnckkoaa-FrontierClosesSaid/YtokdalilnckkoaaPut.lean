/- The steps of operations: put, cut. -/
import Derived.Test.YtokdalilnckkoaaOps
namespace Go.Proofs.Ytokdalilnckkoaa
open Go.RowKit


theorem PtI.other {w : World} {o : Nat} {t : TypeId} {cs : Array Value} {p : Option Nat} (h : PtI w p) (hb : Bk w o t cs) (ht : t ≠ 81) (i : Nat) (u : Value) : PtI (w.setCell ⟨o, i, none⟩ u) p := fun c e => by
  obtain ⟨x, b, hc⟩ := h c e
  exact ⟨x, b, Bk.other hc (fun e => Bk.ne hc hb (fun e => ht e.symm) e) _⟩

set_option maxHeartbeats 800000 in
theorem putI (o g K c : Nat) (top below : Option Nat) (x : Value) (res pd : Int) (w : World) (h : ObI w o g K (some c) false res) (hf : FrI w g top pd) (hc : ClI w c x below) (ht : PtI w top) (hbe : PtI w below) :
    Calls Try.prog 57 #[.pointer (some ⟨o, 0, none⟩)] w (PoI w o g [o, g] (decide (top = below)) 48 (some c) false res (if top = below then some c else top) pd) := by
  have c0 := h.c0
  have c1 := h.c1
  have c2 := h.c2
  have f1 : w.frozen? ⟨o, 1, none⟩ = false := Bk.frozen h 1
  have d1 : w.cell? ⟨c, 1, none⟩ = some (pv below) := (Bk.cell hc 1).trans rfl
  have hoc : ¬ o = c := Bk.ne h hc (by decide)
  have hco : ¬ c = o := fun e => hoc e.symm
  have hgo : ¬ g = o := Bk.ne hf h (by decide)
  have k1 : FrI (w.setCell ⟨o, 1, none⟩ (nxt 48 o)) g top pd := Bk.other hf hgo _
  have k2 : ObI (w.setCell ⟨o, 1, none⟩ (nxt 48 o)) o g 48 (some c) false res := Bk.put h 1 _
  have HCS : Hid (Calls Try.prog 58 #[.pointer (some ⟨g, 0, none⟩), pv below, pv (some c)] (w.setCell ⟨o, 1, none⟩ (nxt 48 o)).drew fun e w' => e = .returned (.bool (decide (top = below))) ∧ (if decide (top = below) then (w.setCell ⟨o, 1, none⟩ (nxt 48 o)).drew.setCell ⟨g, 0, none⟩ (pv (some c)) else (w.setCell ⟨o, 1, none⟩ (nxt 48 o)).drew) = w') :=
    casI g top below (some c) pd (w.setCell ⟨o, 1, none⟩ (nxt 48 o)).drew k1 (ht.other h (by decide) 1 _) (hbe.other h (by decide) 1 _) (PtI.other (fun c' e => by cases e; exact ⟨x, below, hc⟩) h (by decide) 1 _)
  have hfin : ∀ w', (if decide (top = below) then (w.setCell ⟨o, 1, none⟩ (nxt 48 o)).drew.setCell ⟨g, 0, none⟩ (pv (some c)) else (w.setCell ⟨o, 1, none⟩ (nxt 48 o)).drew) = w' → PoI w o g [o, g] (decide (top = below)) 48 (some c) false res (if top = below then some c else top) pd (.returned (.bool (decide (top = below)))) w' := fun w' e => by
    subst e
    by_cases hb : top = below
    · rw [if_pos hb, if_pos (by simpa using hb)]
      exact ⟨rfl, Bk.other k2 (fun e => hgo e.symm) _, Bk.put k1 0 _, (((Ch.refl w _).set (by simp) _).drew).set (by simp) _⟩
    · rw [if_neg hb, if_neg (by simpa using hb)]
      exact ⟨rfl, k2, k1, ((Ch.refl w _).set (by simp) _).drew⟩
  have HFIN := Lib.hid hfin
  generalize (if decide (top = below) then (w.setCell ⟨o, 1, none⟩ (nxt 48 o)).drew.setCell ⟨g, 0, none⟩ (pv (some c)) else (w.setCell ⟨o, 1, none⟩ (nxt 48 o)).drew) = wf at *
  clear h hf hc ht hbe k1 k2 hfin
  unfold nxt at c1 HCS
  rw [pv_some] at c2 HCS
  unfold pv at d1 HCS
  generalize (below.map fun c => (⟨c, 0, none⟩ : Addr)) = bv at *
  generalize decide (top = below) = bb at *
  generalize (if top = below then some c else top) = tt at *
  go_enter Try.func57, Try.ntmps57
  go_wp2_with fail
  go_region_with (go_at_call 58; refine HCS.out.mono ?_; rintro e w' ⟨rfl, rfl⟩)
  all_goals (go_wp2; go_ret; exact HFIN.out _ rfl)

theorem PtS.other {w : World} {o : Nat} {t : TypeId} {cs : Array Value} {p : Option Nat} (h : PtS w p) (hb : Bk w o t cs) (ht : t ≠ 96) (i : Nat) (u : Value) : PtS (w.setCell ⟨o, i, none⟩ u) p := fun c e => by
  obtain ⟨x, b, hc⟩ := h c e
  exact ⟨x, b, Bk.other hc (fun e => Bk.ne hc hb (fun e => ht e.symm) e) _⟩

set_option maxHeartbeats 800000 in
theorem putS (o g K c : Nat) (top below : Option Nat) (x : Value) (res pd : Int) (w : World) (h : ObS w o g K (some c) false res) (hf : FrS w g top pd) (hc : ClS w c x below) (ht : PtS w top) (hbe : PtS w below) :
    Calls Try.prog 59 #[.pointer (some ⟨o, 0, none⟩)] w (PoS w o g [o, g] (decide (top = below)) 53 (some c) false res (if top = below then some c else top) pd) := by
  have c0 := h.c0
  have c1 := h.c1
  have c2 := h.c2
  have f1 : w.frozen? ⟨o, 1, none⟩ = false := Bk.frozen h 1
  have d1 : w.cell? ⟨c, 1, none⟩ = some (pv below) := (Bk.cell hc 1).trans rfl
  have hoc : ¬ o = c := Bk.ne h hc (by decide)
  have hco : ¬ c = o := fun e => hoc e.symm
  have hgo : ¬ g = o := Bk.ne hf h (by decide)
  have k1 : FrS (w.setCell ⟨o, 1, none⟩ (nxt 53 o)) g top pd := Bk.other hf hgo _
  have k2 : ObS (w.setCell ⟨o, 1, none⟩ (nxt 53 o)) o g 53 (some c) false res := Bk.put h 1 _
  have HCS : Hid (Calls Try.prog 60 #[.pointer (some ⟨g, 0, none⟩), pv below, pv (some c)] (w.setCell ⟨o, 1, none⟩ (nxt 53 o)).drew fun e w' => e = .returned (.bool (decide (top = below))) ∧ (if decide (top = below) then (w.setCell ⟨o, 1, none⟩ (nxt 53 o)).drew.setCell ⟨g, 0, none⟩ (pv (some c)) else (w.setCell ⟨o, 1, none⟩ (nxt 53 o)).drew) = w') :=
    casS g top below (some c) pd (w.setCell ⟨o, 1, none⟩ (nxt 53 o)).drew k1 (ht.other h (by decide) 1 _) (hbe.other h (by decide) 1 _) (PtS.other (fun c' e => by cases e; exact ⟨x, below, hc⟩) h (by decide) 1 _)
  have hfin : ∀ w', (if decide (top = below) then (w.setCell ⟨o, 1, none⟩ (nxt 53 o)).drew.setCell ⟨g, 0, none⟩ (pv (some c)) else (w.setCell ⟨o, 1, none⟩ (nxt 53 o)).drew) = w' → PoS w o g [o, g] (decide (top = below)) 53 (some c) false res (if top = below then some c else top) pd (.returned (.bool (decide (top = below)))) w' := fun w' e => by
    subst e
    by_cases hb : top = below
    · rw [if_pos hb, if_pos (by simpa using hb)]
      exact ⟨rfl, Bk.other k2 (fun e => hgo e.symm) _, Bk.put k1 0 _, (((Ch.refl w _).set (by simp) _).drew).set (by simp) _⟩
    · rw [if_neg hb, if_neg (by simpa using hb)]
      exact ⟨rfl, k2, k1, ((Ch.refl w _).set (by simp) _).drew⟩
  have HFIN := Lib.hid hfin
  generalize (if decide (top = below) then (w.setCell ⟨o, 1, none⟩ (nxt 53 o)).drew.setCell ⟨g, 0, none⟩ (pv (some c)) else (w.setCell ⟨o, 1, none⟩ (nxt 53 o)).drew) = wf at *
  clear h hf hc ht hbe k1 k2 hfin
  unfold nxt at c1 HCS
  rw [pv_some] at c2 HCS
  unfold pv at d1 HCS
  generalize (below.map fun c => (⟨c, 0, none⟩ : Addr)) = bv at *
  generalize decide (top = below) = bb at *
  generalize (if top = below then some c else top) = tt at *
  go_enter Try.func59, Try.ntmps59
  go_wp2_with fail
  go_region_with (go_at_call 60; refine HCS.out.mono ?_; rintro e w' ⟨rfl, rfl⟩)
  all_goals (go_wp2; go_ret; exact HFIN.out _ rfl)

end Go.Proofs.Ytokdalilnckkoaa
