/- WorklistOps: the walk. -/
import Derived.Test.YtnepkpcoglfejaaDoAll
set_option linter.unusedVariables false
namespace Go.Proofs.Ytnepkpcoglfejaa
open Go.RowKit Go.Sort Go.Shelf

attribute [local go_sem] Oper.semAt_some

theorem dn_new {w0 w : World} {p : Nat} (h : EnA w0 w p (.slice none 0 0) [] 0) : Dn w0 w p (.slice none 0 0) none 0 0 [] 0 := ⟨⟨[], h, rfl⟩, Rf.nil, rfl, Nat.le_refl _⟩
theorem Dn.lenC {w0 w : World} {p n c N : Nat} {hv : Value} {A : Option Addr} {l : List (Int × Int)} (h : Dn w0 w p hv A n c l N) : Calls Try.prog 14 #[.pointer (some ⟨p, 0, none⟩)] w fun e w' => e = .returned (.int .i64 n) ∧ w = w' := by
  obtain ⟨E, h1, h2⟩ := h.en
  have := e_lenA h1
  rw [← List.length_map (f := fun e : (Int × Int) × Int => e.1), h2, h.len] at this
  exact this
theorem Dn.same {w0 w : World} {p n c N : Nat} {hv : Value} {A : Option Addr} {l : List (Int × Int)} (h : Dn w0 w p hv A n c l N) (hn : n ≤ 1000) : Calls Try.prog 23 #[.pointer (some ⟨p, 0, none⟩), .slice A n c] w fun e w' => e = .returned (.bool true) ∧ Gr w w' := by
  obtain ⟨E, h1, h2⟩ := h.en
  have hl : E.length = n := by rw [← List.length_map (f := fun e : (Int × Int) × Int => e.1), h2, h.len]
  exact same_any w0 w p n c N hv E A h1 (by rw [h2]; exact h.rf) hl hn

set_option maxRecDepth 100000 in
set_option maxHeartbeats 2000000 in
theorem law_ops (A0 : Option Addr) (n c : Nat) (ops : List (Int × Int)) (w : World) (hn : ops.length = n) (hc : n ≤ c) (hs : Sees w w.heap.size A0 (opCells ops)) (hb : ∀ p ∈ ops, 0 ≤ p.1 ∧ p.1 ≤ 255) :
    Calls Try.prog 6 #[.slice A0 n c] w fun e w' => e = .returned (.bool true) ∧ Below w.heap.size w w' := by
  have HS := Lib.hid hs
  have HN := Lib.hid hn
  have HB := Lib.hid hb
  clear hs hn hb
  go_enter Try.func6, Try.ntmps6
  go_wp2_with fail
  refine (awake_any w).mono ?_
  rintro e w1 ⟨rfl, hb1⟩
  have G1 := Lib.hid (Gr.of hb1)
  clear hb1
  by_cases h80 : 80 < n
  · go_wp2
    go_ret
    exact ⟨rfl, G1.out.below⟩
  go_wp2_with fail
  refine (e_newA G1.out).mono ?_
  rintro e w2 ⟨rfl, E2, F2⟩
  have D2 := Lib.hid (dn_new E2)
  clear F2 G1 E2
  generalize w1.heap.size = p at *
  go_wp2_with fail
  go_loopw [4, 17] (fun v i wr => ∃ (t m c' N : Nat) (A : Option Addr) (hv : Value), v = .slice A m c' ∧ i = .int .i64 t ∧ t ≤ n ∧ m ≤ t ∧ N ≤ t ∧ Hid (Dn w wr p hv A m c' (doA [] ops 0 t) N)) (fun _ i _ => n - (intOf i).toNat)
  case atStart => exact ⟨0, 0, 0, 0, none, _, rfl, rfl, Nat.zero_le _, Nat.le_refl _, Nat.le_refl _, D2⟩
  case round =>
    obtain ⟨t, m, c', N, A, hv, rfl, rfl, ht, hmt, hNt, hD⟩ := hrel
    by_cases htn : t < n
    · obtain ⟨kd, key, ad, rfl, ⟨hk0, hk1⟩, d1, d2, hop⟩ := op_at HS.out HB.out hD.out.gr (show t < ops.length by rw [HN.out]; exact htn)
      have D3 := hD.out.no (Fr.alloc _ wr (.cells #[.int .u8 kd, .int .i64 key] 51))
      have HDO := do_any D3 (by omega) (by omega) kd key (t : Int) hk0 hk1
      have hsu := doA_succ (l := []) (b := 0) hop
      rw [Int.zero_add] at hsu
      rw [← hsu] at HDO
      replace HDO := Lib.hid HDO
      clear hop hsu D3 hD D2
      go_wp2_with fail
      refine HDO.out.mono ?_
      rintro e w4 ⟨A', n', c9, hv', N', rfl, D4, hn', hN', _, _⟩
      have HLE := Lib.hid D4.lenC
      replace D4 := Lib.hid D4
      clear HDO d1 d2
      go_wp2_with fail
      refine HLE.out.mono ?_
      rintro e w5 ⟨rfl, rfl⟩
      go_wp2
      go_roundw
      case rel => exact ⟨t + 1, n', c9, N', A', hv', rfl, by go_num, by omega, by omega, by omega, D4⟩
      case measure => simp [intOf]; omega
    · have HSA := Lib.hid (hD.out.same (by omega))
      go_wp2_with fail
      refine HSA.out.mono ?_
      rintro e w4 ⟨rfl, G4⟩
      replace G4 := Lib.hid G4
      go_wp2
      go_ret
      exact ⟨rfl, (hD.out.gr.no G4.out.fr).below⟩
end Go.Proofs.Ytnepkpcoglfejaa
