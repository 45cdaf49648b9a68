/- WorklistClones: the walk. -/
import Derived.Test.YtnepkpcoglfejaaLawOps
set_option linter.unusedVariables false
namespace Go.Proofs.Ytnepkpcoglfejaa
open Go.RowKit Go.Sort Go.Shelf

attribute [local go_sem] Oper.semAt_some

/-- Two lists that share no block, each with its reference. -/
structure Pr (w0 W : World) (p : Nat) (hv : Value) (A : Option Addr) (m c : Nat) (l : List (Int × Int)) (N : Nat) (q : Nat) (hq : Value) (A2 : Option Addr) (m2 c2 : Nat) (l2 : List (Int × Int)) (N2 : Nat) : Prop where
  a : Dn w0 W p hv A m c l N
  b : Dn w0 W q hq A2 m2 c2 l2 N2
  d : ∀ x, Lb p hv x → ¬ Lb q hq x
section
variable {w0 W W' : World} {p : Nat} {hv hv' : Value} {A A' : Option Addr} {m c m' c' : Nat} {l l' : List (Int × Int)} {N N' q : Nat} {hq : Value} {A2 : Option Addr} {m2 c2 : Nat} {l2 : List (Int × Int)} {N2 : Nat}
theorem Pr.symm (h : Pr w0 W p hv A m c l N q hq A2 m2 c2 l2 N2) : Pr w0 W q hq A2 m2 c2 l2 N2 p hv A m c l N := ⟨h.b, h.a, fun x h1 h2 => h.d x h2 h1⟩
theorem Pr.no (h : Pr w0 W p hv A m c l N q hq A2 m2 c2 l2 N2) (hF : Fr (fun _ => False) W W') : Pr w0 W' p hv A m c l N q hq A2 m2 c2 l2 N2 := ⟨h.a.no hF, h.b.no hF, h.d⟩
theorem Pr.left (h : Pr w0 W p hv A m c l N q hq A2 m2 c2 l2 N2) (hD : Dn w0 W' p hv' A' m' c' l' N') (ho : hv'.ownBlock = hv.ownBlock ∨ ∀ b, hv'.ownBlock = some b → W.heap.size ≤ b) (hF : Fr (Lb p hv) W W') : Pr w0 W' p hv' A' m' c' l' N' q hq A2 m2 c2 l2 N2 := by
  obtain ⟨E, hE, _⟩ := h.a.en
  obtain ⟨E2, hE2, e2⟩ := h.b.en
  refine ⟨hD, ⟨⟨E2, hE2.fr hF (fun b _ hb => (hE.lb hb).1) (fun b hb hx => h.d b hx hb), e2⟩, h.b.rf.lb hE hF, h.b.len, h.b.cap⟩, fun x hx hy => ?_⟩
  rcases hx with e | rfl
  · rcases ho with h9 | h9
    · exact h.d x (.inl (h9 ▸ e)) hy
    · have := h9 x e
      have := (hE2.lb hy).2
      omega
  · exact h.d _ (.inr rfl) hy
theorem Pr.swapref (h : Pr w0 W p hv A m c l N q hq A2 m2 c2 l2 N2) (e : l = l2) : Dn w0 W p hv A2 m2 c2 l2 N := by
  obtain ⟨E, hE, h1⟩ := h.a.en
  exact ⟨⟨E, hE, h1.trans e⟩, h.b.rf, h.b.len, h.b.cap⟩
theorem pr_clone (h : Dn w0 W p hv A m c l N) (hm : m ≤ 900) : Calls Try.prog 25 #[.pointer (some ⟨p, 0, none⟩)] W fun e w' => ∃ q hq, e = .returned (.pointer (some ⟨q, 0, none⟩)) ∧ Pr w0 w' p hv A m c l N q hq A m c l N := by
  obtain ⟨E, hE, h1⟩ := h.en
  have hl : E.length = m := by rw [← List.length_map (f := fun e : (Int × Int) × Int => e.1), h1, h.len]
  refine (e_cloneA hE (by omega)).mono ?_
  rintro e w' ⟨q, hq, rfl, E2, hq2, hf2, F2⟩
  refine ⟨q, hq, rfl, h.no F2, ⟨⟨E, E2, h1⟩, h.rf.no F2, h.len, h.cap⟩, fun x hx hy => ?_⟩
  have h9 := (hE.lb hx).2
  rcases hy with e | rfl
  · have := hf2 x e
    omega
  · omega
end

set_option maxRecDepth 100000 in
set_option maxHeartbeats 4000000 in
theorem law_clones (A0 A1 : Option Addr) (n c n1 c1 : Nat) (ops more : List (Int × Int)) (w : World) (hn : ops.length = n) (hc : n ≤ c) (hs : Sees w w.heap.size A0 (opCells ops)) (hb : ∀ p ∈ ops, 0 ≤ p.1 ∧ p.1 ≤ 255)
    (hn1 : more.length = n1) (hc1 : n1 ≤ c1) (hs1 : Sees w w.heap.size A1 (opCells more)) (hb1 : ∀ p ∈ more, 0 ≤ p.1 ∧ p.1 ≤ 255) :
    Calls Try.prog 7 #[.slice A0 n c, .slice A1 n1 c1] w fun e w' => e = .returned (.bool true) ∧ Below w.heap.size w w' := by
  have HS := Lib.hid hs
  have HN := Lib.hid hn
  have HB := Lib.hid hb
  have HS1 := Lib.hid hs1
  have HN1 := Lib.hid hn1
  have HB1 := Lib.hid hb1
  clear hs hn hb hs1 hn1 hb1
  go_enter Try.func7, Try.ntmps7
  go_wp2_with fail
  refine (awake_any w).mono ?_
  rintro e w1 ⟨rfl, hb1⟩
  have G1 := Lib.hid (Gr.of hb1)
  clear hb1
  by_cases h40 : 40 < n
  · go_wp2
    go_ret
    exact ⟨rfl, G1.out.below⟩
  by_cases h41 : 40 < n1
  · go_wp2
    go_ret
    exact ⟨rfl, G1.out.below⟩
  go_wp2_with fail
  refine (e_newA G1.out).mono ?_
  rintro e w2 ⟨rfl, E2, F2⟩
  have D2 := Lib.hid (dn_new E2)
  clear F2 G1 E2
  generalize w1.heap.size = p at *
  go_wp2_with fail
  go_loopw [6, 34] (fun v i wr => ∃ (t m c' N : Nat) (A : Option Addr) (hv : Value), v = .slice A m c' ∧ i = .int .i64 t ∧ t ≤ n ∧ m ≤ t ∧ N ≤ t ∧ Hid (Dn w wr p hv A m c' (doA [] ops 0 t) N)) (fun _ i _ => n - (intOf i).toNat)
  case atStart => exact ⟨0, 0, 0, 0, none, _, rfl, rfl, Nat.zero_le _, Nat.le_refl _, Nat.le_refl _, D2⟩
  case round =>
    obtain ⟨t, m, c', N, A, hv, rfl, rfl, ht, hmt, hNt, hD⟩ := hrel
    by_cases htn : t < n
    · obtain ⟨kd, key, ad, rfl, ⟨hk0, hk1⟩, d1, d2, hop⟩ := op_at HS.out HB.out hD.out.gr (show t < ops.length by rw [HN.out]; exact htn)
      have D3 := hD.out.no (Fr.alloc _ wr (.cells #[.int .u8 kd, .int .i64 key] 51))
      have HDO := do_any D3 (by omega) (by omega) kd key (t : Int) hk0 hk1
      have hsu := doA_succ (l := []) (b := 0) hop
      rw [Int.zero_add] at hsu
      rw [← hsu] at HDO
      replace HDO := Lib.hid HDO
      clear hop hsu D3 hD D2
      go_wp2_with fail
      refine HDO.out.mono ?_
      rintro e w4 ⟨A', n', c9, hv', N', rfl, D4, hn', hN', _, _⟩
      replace D4 := Lib.hid D4
      clear HDO d1 d2
      go_wp2
      go_roundw
      case rel => exact ⟨t + 1, n', c9, N', A', hv', rfl, by go_num, by omega, by omega, by omega, D4⟩
      case measure => simp [intOf]; omega
    · have HCL := Lib.hid (pr_clone hD.out (by omega))
      clear D2 hD
      generalize doA [] ops 0 t = l0 at *
      go_wp2_with fail
      refine HCL.out.mono ?_
      rintro e w3 ⟨q, hq, rfl, P3⟩
      replace P3 := Lib.hid P3
      clear HCL
      go_wp2_with fail
      go_loopw [12, 56] (fun v i wr => ∃ (s m2 c2 N2 : Nat) (A2 : Option Addr) (hq : Value), v = .slice A2 m2 c2 ∧ i = .int .i64 s ∧ s ≤ n1 ∧ m2 ≤ m + s ∧ N2 ≤ N + s ∧ Hid (Pr w wr p hv A m c' l0 N q hq A2 m2 c2 (doA l0 more 100 s) N2)) (fun _ i _ => n1 - (intOf i).toNat)
      case atStart => exact ⟨0, m, c', N, A, _, rfl, rfl, Nat.zero_le _, Nat.le_refl _, Nat.le_refl _, P3⟩
      case round =>
        obtain ⟨s, m2, c2, N2, A2, hq2, rfl, rfl, hsn, hm2, hN2, hP⟩ := hrel
        by_cases hs1 : s < n1
        · obtain ⟨kd, key, ad, rfl, ⟨hk0, hk1⟩, d1, d2, hop⟩ := op_at HS1.out HB1.out hP.out.a.gr (show s < more.length by rw [HN1.out]; exact hs1)
          have P4 := hP.out.no (Fr.alloc _ wr (.cells #[.int .u8 kd, .int .i64 key] 51))
          have HDO := do_any P4.b (by omega) (by omega) kd key (100 + (s : Int)) hk0 hk1
          rw [← doA_succ (l := l0) (b := 100) hop] at HDO
          replace HDO := Lib.hid HDO
          replace P4 := Lib.hid P4
          clear hop hP P3
          go_wp2_with fail
          refine HDO.out.mono ?_
          rintro e w4 ⟨A', n', c9, hv', N', rfl, D4, hn', hN', ho4, F4⟩
          have P5 := Lib.hid (P4.out.symm.left D4 ho4 F4).symm
          clear HDO d1 d2 D4 ho4 F4 P4
          go_wp2
          go_roundw
          case rel => exact ⟨s + 1, n', c9, N', A', hv', rfl, by go_num, by omega, by omega, by omega, P5⟩
          case measure => simp [intOf]; omega
        · obtain rfl : s = n1 := by omega
          have HSA := Lib.hid (hP.out.a.same (by omega))
          clear P3
          go_wp2_with fail
          refine HSA.out.mono ?_
          rintro e w4 ⟨rfl, G4⟩
          have P4 := Lib.hid (hP.out.no G4.fr)
          clear HSA G4 hP
          go_wp2_with fail
          go_loopw [6, 80] (fun v i wr => ∃ (r m3 c3 N3 : Nat) (A3 : Option Addr) (hv3 : Value), v = .slice A3 m3 c3 ∧ i = .int .i64 r ∧ r ≤ s ∧ m3 ≤ m + r ∧ N3 ≤ N + r ∧ Hid (Pr w wr p hv3 A3 m3 c3 (doA l0 more 100 r) N3 q hq2 A2 m2 c2 (doA l0 more 100 s) N2)) (fun _ i _ => s - (intOf i).toNat)
          case atStart => exact ⟨0, m, c', N, A, _, rfl, rfl, Nat.zero_le _, Nat.le_refl _, Nat.le_refl _, P4⟩
          case round =>
            obtain ⟨r, m3, c3, N3, A3, hv3, rfl, rfl, hrn, hm3, hN3, hP⟩ := hrel
            by_cases hrs : r < s
            · obtain ⟨kd, key, ad, rfl, ⟨hk0, hk1⟩, d1, d2, hop⟩ := op_at HS1.out HB1.out hP.out.a.gr (show r < more.length by rw [HN1.out]; exact hrs)
              have P4 := hP.out.no (Fr.alloc _ wr (.cells #[.int .u8 kd, .int .i64 key] 51))
              have HDO := do_any P4.a (by omega) (by omega) kd key (100 + (r : Int)) hk0 hk1
              rw [← doA_succ (l := l0) (b := 100) hop] at HDO
              replace HDO := Lib.hid HDO
              replace P4 := Lib.hid P4
              clear hop hP
              go_wp2_with fail
              refine HDO.out.mono ?_
              rintro e w5 ⟨A', n', c9, hv', N', rfl, D4, hn', hN', ho4, F4⟩
              have P5 := Lib.hid (P4.out.left D4 ho4 F4)
              clear HDO d1 d2 D4 ho4 F4 P4
              go_wp2
              go_roundw
              case rel => exact ⟨r + 1, n', c9, N', A', hv', rfl, by go_num, by omega, by omega, by omega, P5⟩
              case measure => simp [intOf]; omega
            · obtain rfl : r = s := by omega
              have HSA := Lib.hid ((hP.out.swapref rfl).same (by omega))
              go_wp2_with fail
              refine HSA.out.mono ?_
              rintro e w5 ⟨rfl, G5⟩
              have P5 := Lib.hid (hP.out.no G5.fr)
              have HSB := Lib.hid (P5.out.b.same (by omega))
              clear HSA G5 hP
              go_wp2_with fail
              refine HSB.out.mono ?_
              rintro e w6 ⟨rfl, G6⟩
              replace G6 := Lib.hid G6
              go_wp2
              go_ret
              exact ⟨rfl, (P5.out.a.gr.no G6.out.fr).below⟩
end Go.Proofs.Ytnepkpcoglfejaa
