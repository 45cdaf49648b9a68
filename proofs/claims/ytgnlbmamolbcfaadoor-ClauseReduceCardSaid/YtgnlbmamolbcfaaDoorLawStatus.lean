/- The law on Status. -/
import Derived.Test.YtgnlbmamolbcfaaDoorAwake
import Derived.Test.YtgnlbmamolbcfaaDoorRStat
set_option linter.unusedVariables false
namespace Go.Proofs.YtgnlbmamolbcfaaDoor
open Go.RowKit Go.Shelf

attribute [local go_sem] Oper.semAt_some

/-- What a law comes to: true, and what was there lies as it lay. -/
def Law (w : World) (e : Ending) (w' : World) : Prop := e = .returned (.bool true) ∧ Below w.heap.size w w'
theorem Gr.law {w w' : World} {e : Ending} (h : e = .returned (.bool true)) (k : Gr w w') : Law w e w' := ⟨h, k.below⟩
set_option maxRecDepth 100000 in
set_option maxHeartbeats 2000000 in
theorem law_status (w : World) (A P : Option Addr) (n c m cm : Nat) (l : List Lit) (ph : List Int) (hl : l.length = n) (hn : n ≤ maxLen) (hc : Cs w A l) (hm : ph.length = m) (hmn : m ≤ maxLen) (hp : Ps w P ph) :
    Calls Tryd.prog 6 #[.slice A n c, .slice P m cm] w (Law w) := by
  have H0 := Lib.hid (awake_any w)
  have H1 : Hid (∀ W, Gr w W → Calls Tryd.prog 20 #[.slice A n c, .slice P m cm] W fun e w' => e = .returned (.tuple #[.int .i64 (statP ph l).1, .int .i64 (statP ph l).2]) ∧ Gr W w') := fun W hG => status_any W A P n c m cm l ph hl hn (hc.gr hG) hm hmn (hp.gr hG)
  have H2 : Hid (∀ W, Gr w W → Calls Tryd.prog 21 #[.slice A n c, .slice P m cm] W fun e w' => e = .returned (.tuple #[.int .i64 (statP ph l).1, .int .i64 (statP ph l).2]) ∧ Gr W w') := fun W hG => rstatus_any W A P n c m cm l ph hl hn (hc.gr hG) hm hmn (hp.gr hG)
  unfold maxLen at hn hmn
  clear hl hc hm hp
  go_enter Tryd.func6, Tryd.ntmps6
  go_wp2_with fail
  refine H0.out.mono ?_
  rintro e w2 ⟨rfl, G2⟩
  replace G2 := Lib.hid G2
  by_cases h1 : 30 < n
  · go_wp2
    go_ret
    exact Gr.law rfl G2.out
  by_cases h2 : 60 < m
  · go_wp2
    go_ret
    exact Gr.law rfl G2.out
  generalize (statP ph l).1 = s at *
  generalize (statP ph l).2 = o at *
  go_wp2_with fail
  refine (H1.out _ G2.out).mono ?_
  rintro e w3 ⟨rfl, G3⟩
  replace G3 := Lib.hid (G2.out.trans G3)
  go_wp2_with fail
  refine (H2.out _ G3.out).mono ?_
  rintro e w4 ⟨rfl, G4⟩
  replace G4 := Lib.hid (G3.out.trans G4)
  go_wp2
  go_ret
  exact Gr.law (by simp) G4.out
end Go.Proofs.YtgnlbmamolbcfaaDoor
