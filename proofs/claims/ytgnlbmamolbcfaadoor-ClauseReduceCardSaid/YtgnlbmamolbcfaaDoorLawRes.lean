/- The law on Resolve. -/
import Derived.Test.YtgnlbmamolbcfaaDoorLawStatus
import Derived.Test.YtgnlbmamolbcfaaDoorRRes
set_option linter.unusedVariables false
namespace Go.Proofs.YtgnlbmamolbcfaaDoor
open Go.RowKit Go.Shelf

attribute [local go_sem] Oper.semAt_some

theorem fold_len (l : List Lit) : ∀ c : List Lit, (l.foldl ins c).length ≤ c.length + l.length := by
  induction l with
  | nil => intro c; exact Nat.le_refl _
  | cons x l ih =>
    intro c
    have h1 := ih (ins c x)
    have h2 := ins_len c x
    rw [List.foldl_cons, List.length_cons]
    omega
theorem mkR_len (l : List Lit) : (mkR l).length ≤ l.length := by
  have := fold_len l []
  simp only [List.length_nil] at this
  unfold mkR
  omega
theorem resL_len (a b : List Lit) (u : Int) {n m : Nat} (hl : a.length = n) (hl2 : b.length = m) : (resL a b u).length ≤ n + m := by
  have h1 : (mkR (rest a b u)).length ≤ n + m := by
    have h2 := mkR_len (rest a b u)
    have h3 : (rest a b u).length ≤ (a ++ b).length := List.length_filter_le _ _
    rw [List.length_append, hl, hl2] at h3
    omega
  unfold resL
  cases (vldB a && (vldB b && hasOpp a b u))
  · exact Nat.zero_le _
  · rw [if_pos rfl]
    unfold mkV
    cases vldB (mkR (rest a b u))
    · exact Nat.zero_le _
    · rw [if_pos rfl]
      exact h1
set_option maxRecDepth 100000 in
set_option maxHeartbeats 2000000 in
theorem law_resolve (w : World) (A B : Option Addr) (n c m cb : Nat) (a b : List Lit) (u : Int) (hA : A = none → n = 0 ∧ c = 0) (hB : B = none → m = 0 ∧ cb = 0) (hl : a.length = n) (hn : n ≤ maxLen) (hc : Cs w A a) (hl2 : b.length = m) (hm : m ≤ maxLen) (hc2 : Cs w B b) :
    Calls Tryd.prog 4 #[.slice A n c, .slice B m cb, .int .i64 u] w (Law w) := by
  have H0 := Lib.hid (awake_any w)
  have H1 : Hid (∀ W, Gr w W → Calls Tryd.prog 17 #[.slice A n c, .slice B m cb, .int .i64 u] W fun e w' => ∃ v' k, e = .returned (.tuple #[v', .int .i64 (resE a b u)]) ∧ w'.ownsRow W.heap.size 38 2 v' k ((resL a b u).flatMap lc) ∧ Gr W w') := fun W hG => resolve_any W A B n c m cb a b u (fun h => (hA h).1) (fun h => (hB h).1) hl hl2 hn hm (hc.gr hG) (hc2.gr hG)
  have H2 : Hid (∀ W, Gr w W → Calls Tryd.prog 18 #[.slice A n c, .slice B m cb, .int .i64 u] W fun e w' => ∃ v' k, e = .returned (.tuple #[v', .int .i64 (resE a b u)]) ∧ w'.ownsRow W.heap.size 38 2 v' k ((resL a b u).flatMap lc) ∧ Gr W w') := fun W hG => rresolve_any W A B n c m cb a b u (fun h => (hA h).1) (fun h => (hB h).1) hl hl2 hn hm (hc.gr hG) (hc2.gr hG)
  have HK := Lib.hid (resL_len a b u hl hl2)
  unfold maxLen at hn hm
  clear hl hc hl2 hc2 hA hB
  generalize resE a b u = re at *
  generalize resL a b u = rl at *
  go_enter Tryd.func4, Tryd.ntmps4
  go_wp2_with fail
  refine H0.out.mono ?_
  rintro e w2 ⟨rfl, G2⟩
  replace G2 := Lib.hid G2
  by_cases h1 : 30 < n
  · go_wp2
    go_ret
    exact Gr.law rfl G2.out
  by_cases h2 : 30 < m
  · go_wp2
    go_ret
    exact Gr.law rfl G2.out
  go_wp2_with fail
  refine (H1.out _ G2.out).mono ?_
  rintro e w3 ⟨v3, k3, rfl, r3, G3⟩
  replace G3 := Lib.hid (G2.out.trans G3)
  have hk3 : Hid (k3 = rl.length) := (row_len r3).symm
  obtain ⟨A3, c3, rfl⟩ := rw_form r3
  have HC3 := Lib.hid (Cs.own r3)
  clear r3
  go_wp2_with fail
  refine (H2.out _ G3.out).mono ?_
  rintro e w4 ⟨v4, k4, rfl, r4, G4⟩
  have HC4 := Lib.hid (HC3.out.gr G4)
  replace G4 := Lib.hid (G3.out.trans G4)
  have hk4 : Hid (k4 = rl.length) := (row_len r4).symm
  obtain ⟨A4, c4, rfl⟩ := rw_form r4
  have HS := Lib.hid (rsame_any w4 A3 A4 k3 c3 k4 c4 rl rl hk3.out.symm (by rw [hk3.out]; have := HK.out; unfold maxLen; omega) HC4.out hk4.out.symm (Cs.own r4))
  rw [eqB_yes rfl] at HS
  clear r4 hk3 hk4
  go_wp2_with fail
  refine HS.out.mono ?_
  rintro e w5 ⟨rfl, G5⟩
  replace G5 := Lib.hid (G4.out.trans G5)
  go_wp2
  go_ret
  exact Gr.law rfl G5.out
end Go.Proofs.YtgnlbmamolbcfaaDoor
