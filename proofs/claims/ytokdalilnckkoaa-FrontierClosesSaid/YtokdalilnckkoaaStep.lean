/- Step, Result, Pending of operations and frontiers. -/
import Derived.Test.YtokdalilnckkoaaLook
namespace Go.Proofs.Ytokdalilnckkoaa
open Go.RowKit

/-- A short string. -/
abbrev Bs := { x : ByteArray // x.size ≤ 1000 }
def bs0 : Bs := ⟨ByteArray.empty, by decide⟩


set_option maxHeartbeats 400000 in
theorem stepI (o g K : Nat) (at_ : Option Nat) (res : Int) (w : World) (h : ObI w o g K at_ false res) (R : Ending → World → Prop)
    (eg : ∀ args W, (callFunc K args).run Try.prog W = .ok (.enter K args) W)
    (H : Calls Try.prog K #[.pointer (some ⟨o, 0, none⟩)] w R) (hR : ∀ e w', R e w' → ∃ b K' at' res', e = .returned (.bool b) ∧ ObI w' o g K' at' false res') :
    Calls Try.prog 11 #[.pointer (some ⟨o, 0, none⟩)] w fun e w' => ∃ b w1, R (.returned (.bool b)) w1 ∧ e = .returned (.bool b) ∧ w1.setCell ⟨o, 3, none⟩ (.bool b) = w' := by
  have c1 := h.c1
  have c3 := h.c3
  have HH := Lib.hid H
  have HR := Lib.hid hR
  clear h H hR
  unfold nxt at c1
  go_enter Try.func11, Try.ntmps11
  go_wp2_with fail
  refine HH.out.mono ?_
  intro e w' hr
  obtain ⟨b, K', at', res', rfl, ho⟩ := HR.out e w' hr
  have d3 := ho.c3
  have f3 : w'.frozen? ⟨o, 3, none⟩ = false := Bk.frozen ho 3
  have hr := Lib.hid hr
  clear ho
  go_wp2
  go_ret
  exact ⟨b, w', hr.out, rfl, rfl⟩

theorem stepfinI (o g K : Nat) (at_ : Option Nat) (res : Int) (w : World) (h : ObI w o g K at_ true res) :
    Calls Try.prog 11 #[.pointer (some ⟨o, 0, none⟩)] w fun e w' => e = .returned (.bool true) ∧ w = w' := by
  have c3 := h.c3
  clear h
  go_enter Try.func11, Try.ntmps11
  go_wp2
  go_ret
  exact ⟨rfl, rfl⟩

theorem pendingI (g : Nat) (top : Option Nat) (pd : Int) (w : World) (h : FrI w g top pd) :
    Calls Try.prog 15 #[.pointer (some ⟨g, 0, none⟩)] w fun e w' => e = .returned (.int .i64 pd) ∧ w = w' := by
  have H := Lib.hid (load64_any g _ _ pd w h)
  clear h
  go_enter Try.func15, Try.ntmps15
  go_wp2_with fail
  refine H.out.mono ?_
  rintro e w' ⟨rfl, rfl⟩
  go_wp2
  go_ret
  exact ⟨rfl, rfl⟩

theorem resunI (o g K : Nat) (at_ : Option Nat) (res : Int) (w : World) (h : ObI w o g K at_ false res) :
    Calls Try.prog 13 #[.pointer (some ⟨o, 0, none⟩)] w fun e w' => e = .returned (.tuple #[.int .i64 0, .int .i64 0]) ∧ w = w' := by
  have c3 := h.c3
  clear h
  go_enter Try.func13, Try.ntmps13
  go_wp2
  go_ret2
  exact ⟨rfl, rfl⟩

theorem restakenI (o g K c : Nat) (x : Int) (below : Option Nat) (w : World) (h : ObI w o g K (some c) true 1) (hc : ClI w c (.int .i64 x) below) :
    Calls Try.prog 13 #[.pointer (some ⟨o, 0, none⟩)] w fun e w' => e = .returned (.tuple #[.int .i64 x, .int .i64 1]) ∧ w = w' := by
  have c3 := h.c3
  have c4 := h.c4
  have c2 := h.c2
  rw [pv_some] at c2
  have d0 : w.cell? ⟨c, 0, none⟩ = some (.int .i64 x) := (Bk.cell hc 0).trans rfl
  clear h hc
  go_enter Try.func13, Try.ntmps13
  go_wp2
  go_ret2
  exact ⟨rfl, rfl⟩

theorem resotherI (o g K : Nat) (at_ : Option Nat) (res : Int) (w : World) (h : ObI w o g K at_ true res) (hres : res ≠ 1) :
    Calls Try.prog 13 #[.pointer (some ⟨o, 0, none⟩)] w fun e w' => e = .returned (.tuple #[.int .i64 0, .int .i64 res]) ∧ w.drew = w' := by
  have c3 := h.c3
  have c4 := h.c4
  clear h
  have hp' : (res == 1) = false := by rw [beq_eq_false_iff_ne]; exact hres
  go_enter Try.func13, Try.ntmps13
  go_wp2_with fail
  go_region
  all_goals
    go_wp2
    go_ret2
    exact ⟨rfl, rfl⟩

set_option maxHeartbeats 400000 in
theorem stepS (o g K : Nat) (at_ : Option Nat) (res : Int) (w : World) (h : ObS w o g K at_ false res) (R : Ending → World → Prop)
    (eg : ∀ args W, (callFunc K args).run Try.prog W = .ok (.enter K args) W)
    (H : Calls Try.prog K #[.pointer (some ⟨o, 0, none⟩)] w R) (hR : ∀ e w', R e w' → ∃ b K' at' res', e = .returned (.bool b) ∧ ObS w' o g K' at' false res') :
    Calls Try.prog 30 #[.pointer (some ⟨o, 0, none⟩)] w fun e w' => ∃ b w1, R (.returned (.bool b)) w1 ∧ e = .returned (.bool b) ∧ w1.setCell ⟨o, 3, none⟩ (.bool b) = w' := by
  have c1 := h.c1
  have c3 := h.c3
  have HH := Lib.hid H
  have HR := Lib.hid hR
  clear h H hR
  unfold nxt at c1
  go_enter Try.func30, Try.ntmps30
  go_wp2_with fail
  refine HH.out.mono ?_
  intro e w' hr
  obtain ⟨b, K', at', res', rfl, ho⟩ := HR.out e w' hr
  have d3 := ho.c3
  have f3 : w'.frozen? ⟨o, 3, none⟩ = false := Bk.frozen ho 3
  have hr := Lib.hid hr
  clear ho
  go_wp2
  go_ret
  exact ⟨b, w', hr.out, rfl, rfl⟩

theorem stepfinS (o g K : Nat) (at_ : Option Nat) (res : Int) (w : World) (h : ObS w o g K at_ true res) :
    Calls Try.prog 30 #[.pointer (some ⟨o, 0, none⟩)] w fun e w' => e = .returned (.bool true) ∧ w = w' := by
  have c3 := h.c3
  clear h
  go_enter Try.func30, Try.ntmps30
  go_wp2
  go_ret
  exact ⟨rfl, rfl⟩

theorem pendingS (g : Nat) (top : Option Nat) (pd : Int) (w : World) (h : FrS w g top pd) :
    Calls Try.prog 32 #[.pointer (some ⟨g, 0, none⟩)] w fun e w' => e = .returned (.int .i64 pd) ∧ w = w' := by
  have H := Lib.hid (load64_any g _ _ pd w h)
  clear h
  go_enter Try.func32, Try.ntmps32
  go_wp2_with fail
  refine H.out.mono ?_
  rintro e w' ⟨rfl, rfl⟩
  go_wp2
  go_ret
  exact ⟨rfl, rfl⟩

theorem resunS (o g K : Nat) (at_ : Option Nat) (res : Int) (w : World) (h : ObS w o g K at_ false res) :
    Calls Try.prog 31 #[.pointer (some ⟨o, 0, none⟩)] w fun e w' => e = .returned (.tuple #[.string ByteArray.empty, .int .i64 0]) ∧ w = w' := by
  have c3 := h.c3
  clear h
  go_enter Try.func31, Try.ntmps31
  go_wp2
  go_ret2
  exact ⟨rfl, rfl⟩

theorem restakenS (o g K c : Nat) (x : Bs) (below : Option Nat) (w : World) (h : ObS w o g K (some c) true 1) (hc : ClS w c (.string x.1) below) :
    Calls Try.prog 31 #[.pointer (some ⟨o, 0, none⟩)] w fun e w' => e = .returned (.tuple #[.string x.1, .int .i64 1]) ∧ w = w' := by
  have c3 := h.c3
  have c4 := h.c4
  have c2 := h.c2
  rw [pv_some] at c2
  have d0 : w.cell? ⟨c, 0, none⟩ = some (.string x.1) := (Bk.cell hc 0).trans rfl
  clear h hc
  go_enter Try.func31, Try.ntmps31
  go_wp2
  go_ret2
  exact ⟨rfl, rfl⟩

theorem resotherS (o g K : Nat) (at_ : Option Nat) (res : Int) (w : World) (h : ObS w o g K at_ true res) (hres : res ≠ 1) :
    Calls Try.prog 31 #[.pointer (some ⟨o, 0, none⟩)] w fun e w' => e = .returned (.tuple #[.string ByteArray.empty, .int .i64 res]) ∧ w.drew = w' := by
  have c3 := h.c3
  have c4 := h.c4
  clear h
  have hp' : (res == 1) = false := by rw [beq_eq_false_iff_ne]; exact hres
  go_enter Try.func31, Try.ntmps31
  go_wp2_with fail
  go_region
  all_goals
    go_wp2
    go_ret2
    exact ⟨rfl, rfl⟩

end Go.Proofs.Ytokdalilnckkoaa
