/- do: a pop, a peek, a clone. -/
import Derived.Test.YtnepkpcoglfejaaDo
import Derived.Deep.RegionHeld3
import Derived.Deep.DeepCutAuto
set_option linter.unusedVariables false
namespace Go.Proofs.Ytnepkpcoglfejaa
open Go.RowKit Go.Sort Go.Shelf

attribute [local go_sem] Oper.semAt_some


theorem add_zero (a : Addr) : a.add 0 = a := by unfold Addr.add; simp
theorem Rf.head {w : World} {A : Option Addr} {l : List (Int × Int)} {x : Int × Int} (h : Rf w A (x :: l)) : ∃ ad cs, A = some ad ∧ Bk w ad.block 27 cs ∧ w.cell? ad = some (.int .i64 x.1) ∧ w.cell? ⟨ad.block, ad.off + 1, none⟩ = some (.int .i64 x.2) := by
  obtain ⟨ad, cs, rfl, hb, h1, h2⟩ := h 0 x rfl
  rw [Nat.zero_mul, add_zero] at h1 h2
  exact ⟨ad, cs, rfl, hb, h1, h2⟩

set_option maxRecDepth 100000 in
set_option maxHeartbeats 2000000 in
theorem do_pop {w0 w : World} {p n c N : Nat} {hv : Value} {A : Option Addr} {l : List (Int × Int)} (h : Dn w0 w p hv A n c l N) (hn : n ≤ 900) (hN : N ≤ 900) (kd key id : Int) (hk : 0 ≤ kd) (hk2 : kd ≤ 255) (hr : kd % 7 = 3) :
    Calls Try.prog 24 #[.pointer (some ⟨p, 0, none⟩), .slice A n c, .agg #[.int .u8 kd, .int .i64 key], .int .i64 id] w (DoR w0 w p hv n l.tail N) := by
  obtain ⟨E, hE, rfl⟩ := h.en
  have hlen := h.len
  rw [List.length_map] at hlen
  have hcap := h.cap
  have F1 : Fr (fun _ => False) w (w.alloc (.cells #[.int .u8 kd, .int .i64 key] 51)) := Fr.alloc _ _ _
  have E1 := hE.no F1
  have R1 := h.rf.no F1
  have hP := e_popA E1 (by omega)
  cases E with
  | nil =>
    obtain rfl : 0 = n := hlen
    have HP : Hid (Calls Try.prog 13 #[.pointer (some ⟨p, 0, none⟩)] (w.alloc (.cells #[.int .u8 kd, .int .i64 key] 51)) fun e w' => e = .returned (.tuple #[.agg #[.int .i64 0, .int .i64 0], .bool false]) ∧ ∃ hv', EnA w0 w' p hv' [] N ∧ hv'.ownBlock = hv.ownBlock ∧ Fr (Lb p hv) w w') := hP.mono fun _ _ ⟨h1, hv', h2, h3, h4⟩ => ⟨h1, hv', h2, h3, (F1.wide fun _ _ h => h.elim).trans h4⟩
    clear hP E1 R1 F1 hE h
    go_enter Try.func24, Try.ntmps24
    go_wp2_with fail
    refine HP.out.mono ?_
    rintro e w4 ⟨rfl, hv', E4, ho4, F4⟩
    have b5 := Bk.made w4 27 #[.int .i64 0, .int .i64 0]
    have c51 : (w4.alloc (.cells #[.int .i64 0, .int .i64 0] 27)).cell? ⟨w4.heap.size, 0, none⟩ = some (.int .i64 0) := (b5.cell 0).trans rfl
    have c52 : (w4.alloc (.cells #[.int .i64 0, .int .i64 0] 27)).cell? ⟨w4.heap.size, 1, none⟩ = some (.int .i64 0) := (b5.cell 1).trans rfl
    have E5 := Lib.hid (E4.alloc (.cells #[.int .i64 0, .int .i64 0] 27))
    have F5 := Lib.hid (F4.trans (Fr.alloc _ w4 (.cells #[.int .i64 0, .int .i64 0] 27)))
    replace ho4 := Lib.hid ho4
    clear E4 F4 HP b5
    go_wp2_with fail
    go_quiet (fail)
    go_wp2
    go_returns
    exact ⟨A, 0, c, hv', N, rfl, ⟨⟨[], E5.out.drewN nq, rfl⟩, Rf.nil, rfl, hcap⟩, by omega, by omega, .inl ho4.out, F5.out.trans (Fr.drewN _ _ _)⟩
  | cons x E =>
    obtain ⟨⟨x1, x2⟩, xn⟩ := x
    obtain rfl : E.length + 1 = n := hlen
    have HP : Hid (Calls Try.prog 13 #[.pointer (some ⟨p, 0, none⟩)] (w.alloc (.cells #[.int .u8 kd, .int .i64 key] 51)) fun e w' => e = .returned (.tuple #[.agg #[.int .i64 x1, .int .i64 x2], .bool true]) ∧ ∃ hv', EnA w0 w' p hv' E N ∧ hv'.ownBlock = hv.ownBlock ∧ Fr (Lb p hv) w w' ∧ Rf w' A ((x1, x2) :: E.map (·.1))) := hP.mono fun _ _ ⟨h1, hv', h2, h3, h4⟩ => ⟨h1, hv', h2, h3, (F1.wide fun _ _ h => h.elim).trans h4, R1.lb E1 h4⟩
    clear hP E1 R1 F1 hE h
    obtain ⟨k, hk9⟩ : ∃ k, E.length = k := ⟨_, rfl⟩
    rw [hk9] at hcap hn ⊢
    have HKL := Lib.hid hk9
    clear hk9
    go_enter Try.func24, Try.ntmps24
    go_wp2_with fail
    refine HP.out.mono ?_
    rintro e w4 ⟨rfl, hv', E4, ho4, F4, R4⟩
    have R5 := R4.no (Fr.alloc _ w4 (.cells #[.int .i64 x1, .int .i64 x2] 27))
    obtain ⟨ad, cs, rfl, hb, d1, d2⟩ := R5.head
    have HR5 := Lib.hid (R5.tail (c := c))
    have b5 := Bk.made w4 27 #[.int .i64 x1, .int .i64 x2]
    have c51 : (w4.alloc (.cells #[.int .i64 x1, .int .i64 x2] 27)).cell? ⟨w4.heap.size, 0, none⟩ = some (.int .i64 x1) := (b5.cell 0).trans rfl
    have c52 : (w4.alloc (.cells #[.int .i64 x1, .int .i64 x2] 27)).cell? ⟨w4.heap.size, 1, none⟩ = some (.int .i64 x2) := (b5.cell 1).trans rfl
    have E5 := Lib.hid (E4.alloc (.cells #[.int .i64 x1, .int .i64 x2] 27))
    have F5 := Lib.hid (F4.trans (Fr.alloc _ w4 (.cells #[.int .i64 x1, .int .i64 x2] 27)))
    replace ho4 := Lib.hid ho4
    clear E4 F4 HP b5 R4 R5 hb
    have hne : ¬ (((k + 1 : Nat) : Int)) = 0 := by omega
    have hk1 : (1 : Int) ≤ ((k + 1 : Nat) : Int) := by omega
    by_cases hc1 : c = 1
    · subst hc1
      obtain rfl : k = 0 := by omega
      go_wp2_with fail
      go_quiet (fail)
      go_wp2
      go_returns
      have hEn : E = [] := List.length_eq_zero_iff.1 HKL.out
      subst hEn
      exact ⟨_, 0, 0, hv', N, rfl, ⟨⟨[], E5.out.drewN nq, rfl⟩, Rf.nil, rfl, by omega⟩, by omega, by omega, .inl ho4.out, F5.out.trans (Fr.drewN _ _ _)⟩
    · go_wp2_with fail
      go_quiet (fail)
      go_wp2
      go_returns
      have e2 : ad.add 2 = ⟨ad.block, ad.off + 2, none⟩ := rfl
      have hR6 := HR5.out.no (Fr.drewN _ _ nq)
      rw [Option.map_some, e2] at hR6
      exact ⟨some ⟨ad.block, ad.off + 2, none⟩, k, c - 1, hv', N, rfl, ⟨⟨E, E5.out.drewN nq, rfl⟩, hR6, (List.length_map _).trans HKL.out, by omega⟩, by omega, by omega, .inl ho4.out, F5.out.trans (Fr.drewN _ _ _)⟩



set_option maxRecDepth 100000 in
set_option maxHeartbeats 2000000 in
theorem do_peek {w0 w : World} {p n c N : Nat} {hv : Value} {A : Option Addr} {l : List (Int × Int)} (h : Dn w0 w p hv A n c l N) (hn : n ≤ 900) (hN : N ≤ 900) (kd key id : Int) (hk : 0 ≤ kd) (hk2 : kd ≤ 255) (hr : kd % 7 = 4) :
    Calls Try.prog 24 #[.pointer (some ⟨p, 0, none⟩), .slice A n c, .agg #[.int .u8 kd, .int .i64 key], .int .i64 id] w (DoR w0 w p hv n l N) := by
  obtain ⟨E, hE, rfl⟩ := h.en
  have hlen := h.len
  rw [List.length_map] at hlen
  have F1 : Fr (fun _ => False) w (w.alloc (.cells #[.int .u8 kd, .int .i64 key] 51)) := Fr.alloc _ _ _
  have E1 := hE.no F1
  have hP := e_peekA E1
  have HSA : Hid (∀ W, Fr (fun _ => False) w W → Calls Try.prog 23 #[.pointer (some ⟨p, 0, none⟩), .slice A n c] W fun e w' => e = .returned (.bool true) ∧ Gr W w') := fun W hF => same_any w0 W p n c N hv E A (hE.no hF) (h.rf.no hF) hlen (by omega)
  have HH : Hid (∀ W, Fr (fun _ => False) w W → Dn w0 W p hv A n c (E.map (·.1)) N) := fun W hF => h.no hF
  have hrf := h.rf
  cases E with
  | nil =>
    obtain rfl : 0 = n := hlen
    have HP : Hid (Calls Try.prog 38 #[.pointer (some ⟨p, 0, none⟩)] (w.alloc (.cells #[.int .u8 kd, .int .i64 key] 51)) fun e w' => e = .returned (.tuple #[.agg #[.int .i64 0, .int .i64 0], .bool false]) ∧ Fr (fun _ => False) w w') := hP.mono fun _ _ ⟨h1, _, h4⟩ => ⟨h1, F1.trans h4⟩
    clear hP E1 F1 hE h hrf
    go_enter Try.func24, Try.ntmps24
    go_wp2_with fail
    refine HP.out.mono ?_
    rintro e w4 ⟨rfl, F4⟩
    have F5 : Fr (fun _ => False) w (w4.alloc (.cells #[.int .i64 0, .int .i64 0] 27)) := F4.trans (Fr.alloc _ _ _)
    have b5 := Bk.made w4 27 #[.int .i64 0, .int .i64 0]
    have c51 : (w4.alloc (.cells #[.int .i64 0, .int .i64 0] 27)).cell? ⟨w4.heap.size, 0, none⟩ = some (.int .i64 0) := (b5.cell 0).trans rfl
    have c52 : (w4.alloc (.cells #[.int .i64 0, .int .i64 0] 27)).cell? ⟨w4.heap.size, 1, none⟩ = some (.int .i64 0) := (b5.cell 1).trans rfl
    replace F5 := Lib.hid F5
    clear F4 HP b5
    go_wp2_with fail
    refine (HSA.out _ F5.out).mono ?_
    rintro e w6 ⟨rfl, G6⟩
    have HF6 := Lib.hid (F5.out.trans G6.fr)
    clear G6 F5
    go_wp2
    go_returns
    exact ⟨A, 0, c, hv, N, rfl, HH.out _ HF6.out, by omega, by omega, .inl rfl, HF6.out.wide fun _ _ h => h.elim⟩
  | cons x E =>
    obtain ⟨⟨x1, x2⟩, xn⟩ := x
    obtain ⟨k, hkn⟩ : ∃ k, n = k + 1 := ⟨E.length, hlen.symm⟩
    subst hkn
    have HP : Hid (Calls Try.prog 38 #[.pointer (some ⟨p, 0, none⟩)] (w.alloc (.cells #[.int .u8 kd, .int .i64 key] 51)) fun e w' => e = .returned (.tuple #[.agg #[.int .i64 x1, .int .i64 x2], .bool true]) ∧ Fr (fun _ => False) w w') := hP.mono fun _ _ ⟨h1, _, h4⟩ => ⟨h1, F1.trans h4⟩
    have HRF := Lib.hid hrf
    clear hP E1 F1 hE h hrf hlen
    go_enter Try.func24, Try.ntmps24
    go_wp2_with fail
    refine HP.out.mono ?_
    rintro e w4 ⟨rfl, F4⟩
    have F5 : Fr (fun _ => False) w (w4.alloc (.cells #[.int .i64 x1, .int .i64 x2] 27)) := F4.trans (Fr.alloc _ _ _)
    have R5 := HRF.out.no F5
    obtain ⟨ad, cs, rfl, hb, d1, d2⟩ := R5.head
    have b5 := Bk.made w4 27 #[.int .i64 x1, .int .i64 x2]
    have c51 : (w4.alloc (.cells #[.int .i64 x1, .int .i64 x2] 27)).cell? ⟨w4.heap.size, 0, none⟩ = some (.int .i64 x1) := (b5.cell 0).trans rfl
    have c52 : (w4.alloc (.cells #[.int .i64 x1, .int .i64 x2] 27)).cell? ⟨w4.heap.size, 1, none⟩ = some (.int .i64 x2) := (b5.cell 1).trans rfl
    replace F5 := Lib.hid F5
    clear F4 HP b5 R5 hb HRF
    have hne : ¬ (((k + 1 : Nat) : Int)) = 0 := by omega
    go_wp2_with fail
    generalize hw5 : w4.alloc (.cells #[.int .i64 x1, .int .i64 x2] 27) = w5 at *
    clear hw5
    have HSQ : Hid (Calls Try.prog 23 #[.pointer (some ⟨p, 0, none⟩), .slice (some ad) (k + 1) c] w5.drew fun e w' => e = .returned (.bool true) ∧ Hid (Fr (fun _ => False) w w') ∧ w'.cell? ⟨w4.heap.size, 0, none⟩ = some (.int .i64 x1) ∧ w'.cell? ⟨w4.heap.size, 1, none⟩ = some (.int .i64 x2) ∧ w'.cell? ad = some (.int .i64 x1) ∧ w'.cell? ⟨ad.block, ad.off + 1, none⟩ = some (.int .i64 x2)) := by
      refine (HSA.out w5.drew (F5.out.trans (Fr.drew _ _))).mono ?_
      rintro e w' ⟨rfl, G⟩
      have hk : ∀ {a : Addr} {v : Value}, w5.cell? a = some v → w'.cell? a = some v := fun {a v} ha => (World.cell?_of_block (G.fr.keep a.block (World.block_lt_of_cell? w5 _ ha) (fun h => h))).trans ha
      exact ⟨rfl, Lib.hid ((F5.out.trans (Fr.drew _ _)).trans G.fr), hk c51, hk c52, hk d1, hk d2⟩
    go_region_held3 (fun W => W.cell? ⟨w4.heap.size, 0, none⟩ = some (.int .i64 x1) ∧ W.cell? ⟨w4.heap.size, 1, none⟩ = some (.int .i64 x2) ∧ W.cell? ad = some (.int .i64 x1) ∧ W.cell? ⟨ad.block, ad.off + 1, none⟩ = some (.int .i64 x2)) (first | go_keep | exact ⟨‹_›, ‹_›, ‹_›, ‹_›⟩) (first | (go_at_call 23; refine HSQ.out.mono ?_; rintro e w6 ⟨rfl, HF6, k0, k1, k2, k3⟩))
    go_wp2
    go_returns
    exact ⟨some ad, k + 1, c, hv, N, rfl, HH.out _ HF6.out, by omega, by omega, .inl rfl, HF6.out.wide fun _ _ h => h.elim⟩



set_option maxRecDepth 100000 in
set_option maxHeartbeats 2000000 in
theorem do_clone {w0 w : World} {p n c N : Nat} {hv : Value} {A : Option Addr} {l : List (Int × Int)} (h : Dn w0 w p hv A n c l N) (hn : n ≤ 900) (hN : N ≤ 900) (kd key id : Int) (hk : 0 ≤ kd) (hk2 : kd ≤ 255) (hr : kd % 7 = 6) :
    Calls Try.prog 24 #[.pointer (some ⟨p, 0, none⟩), .slice A n c, .agg #[.int .u8 kd, .int .i64 key], .int .i64 id] w (DoR w0 w p hv n l N) := by
  obtain ⟨E, hE, rfl⟩ := h.en
  have hlen := h.len
  rw [List.length_map] at hlen
  have F1 : Fr (fun _ => False) w (w.alloc (.cells #[.int .u8 kd, .int .i64 key] 51)) := Fr.alloc _ _ _
  have E1 := hE.no F1
  have HC := Lib.hid (e_cloneA E1 (by omega))
  have HSA : Hid (∀ W, Gr w W → Calls Try.prog 23 #[.pointer (some ⟨p, 0, none⟩), .slice A n c] W fun e w' => e = .returned (.bool true) ∧ Gr W w') := fun W hF => same_any w0 W p n c N hv E A (hE.no hF.fr) (h.rf.no hF.fr) hlen (by omega)
  have HH : Hid (∀ W, Gr w W → Dn w0 W p hv A n c (E.map (·.1)) N) := fun W hF => h.no hF.fr
  have G1 := Lib.hid ((Gr.refl w).alloc (.cells #[.int .u8 kd, .int .i64 key] 51))
  have B1 := Lib.hid (Bk.made w 51 #[.int .u8 kd, .int .i64 key])
  have HLN := Lib.hid hlen
  have hs1 : w.heap.size < (w.alloc (.cells #[.int .u8 kd, .int .i64 key] 51)).heap.size := by simp
  clear E1 F1 hE h hlen
  go_enter Try.func24, Try.ntmps24
  go_wp2_with fail
  refine HC.out.mono ?_
  rintro e w2 ⟨q, hv2, rfl, E2, hq2, hf2, F2⟩
  have G2 := G1.out.no F2
  have B2 : Bk w2 w.heap.size 51 #[.int .u8 kd, .int .i64 key] := F2.bk B1.out (fun h => h)
  have c2 : w2.cell? ⟨w.heap.size, 1, none⟩ = some (.int .i64 key) := (B2.cell 1).trans rfl
  have hL2 : ∀ b, Lb q hv2 b → w.heap.size ≤ b := fun b hb => by
    rcases hb with e | rfl
    · have := hf2 b e
      omega
    · omega
  have HP := Lib.hid (e_pushA E2 (key, -1) (by have := HLN.out; omega) (by omega))
  have hw2 : w.heap.size < w2.heap.size := B2.lt
  replace G2 := Lib.hid G2
  replace hL2 := Lib.hid hL2
  replace E2 := Lib.hid E2
  clear F2 B2 hf2 hq2 HC G1 B1 hs1
  go_wp2_with fail
  refine HP.out.mono ?_
  rintro e w3 ⟨rfl, hv3, E3, ho3, F3⟩
  have G3 : Gr w w3 := G2.out.step F3 fun b _ hb => hL2.out b hb
  have hL3 : ∀ b, Lb q hv3 b → w.heap.size ≤ b := fun b hb => by
    rcases hb with e | rfl
    · rcases ho3 with h9 | h9
      · exact hL2.out b (.inl (h9 ▸ e))
      · have := h9 b e
        omega
    · exact hL2.out _ (.inr rfl)
  have HO3 := Lib.hid (e_popA E3 (by rw [(ins_perm _ _).length_eq, List.length_cons, HLN.out]; omega))
  have hl3 : (ins (bfr ltA) ((key, -1), (N : Int)) E).tail.length ≤ 1000000 := by rw [List.length_tail, (ins_perm _ _).length_eq, List.length_cons, HLN.out]; omega
  replace G3 := Lib.hid G3
  replace hL3 := Lib.hid hL3
  clear E3 F3 ho3 HP E2 G2 hL2 c2
  generalize hdA (ins (bfr ltA) ((key, -1), (N : Int)) E) = x3 at *
  generalize (!(ins (bfr ltA) ((key, -1), (N : Int)) E).isEmpty) = y3 at *
  generalize (ins (bfr ltA) ((key, -1), (N : Int)) E).tail = E3 at *
  go_wp2_with fail
  refine HO3.out.mono ?_
  rintro e w4 ⟨rfl, hv4, E4, ho4, F4⟩
  have G4 : Gr w w4 := G3.out.step F4 fun b _ hb => hL3.out b hb
  have hL4 : ∀ b, Lb q hv4 b → w.heap.size ≤ b := fun b hb => by
    rcases hb with e | rfl
    · exact hL3.out b (.inl (ho4 ▸ e))
    · exact hL3.out _ (.inr rfl)
  have HO4 := Lib.hid (e_popA E4 hl3)
  replace G4 := Lib.hid G4
  replace hL4 := Lib.hid hL4
  clear E4 F4 ho4 HO3 G3 hL3 hl3
  generalize hdA E3 = x4 at *
  generalize (!E3.isEmpty) = y4 at *
  go_wp2_with fail
  refine HO4.out.mono ?_
  rintro e w5 ⟨rfl, hv5, E5, ho5, F5⟩
  have G5 : Gr w w5 := G4.out.step F5 fun b _ hb => hL4.out b hb
  replace G5 := Lib.hid G5
  clear E5 F5 ho5 HO4 G4 hL4
  go_wp2_with fail
  refine (HSA.out _ G5.out).mono ?_
  rintro e w6 ⟨rfl, G6⟩
  have HG6 := Lib.hid (G5.out.no G6.fr)
  clear G6 G5
  go_wp2
  go_returns
  exact ⟨A, n, c, hv, N, rfl, HH.out _ HG6.out, by omega, by omega, .inl rfl, HG6.out.fr.wide fun _ _ h => h.elim⟩
end Go.Proofs.Ytnepkpcoglfejaa
