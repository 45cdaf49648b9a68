/- do: Keep; any operation; a row of operations. -/
import Derived.Test.YtnepkpcoglfejaaDoOne
set_option linter.unusedVariables false
namespace Go.Proofs.Ytnepkpcoglfejaa
open Go.RowKit Go.Sort Go.Shelf

attribute [local go_sem] Oper.semAt_some


theorem filter_map_fst (E : List ((Int × Int) × Int)) : (E.filter fun e => evn e.1).map (·.1) = (E.map (·.1)).filter evn := by
  rw [List.filter_map]
  rfl

/-- What is known behind the two calls of Keep. -/
structure Dk (w0 w : World) (p b16 : Nat) (A A5 A6 : Option Addr) (c5 c6 n m : Nat) (hv' : Value) (E : List ((Int × Int) × Int)) (N : Nat) (W : World) : Prop where
  en : EnA w0 W p hv' (E.filter fun e => evn e.1) N
  rf : Rf W A (E.map (·.1))
  r5 : Rf W A5 ((E.map (·.1)).filter evn)
  r6 : Rf W A6 (E.map (·.1))
  bx : Bk W b16 42 #[.slice A6 n c6]
theorem Dk.drewN {w0 w : World} {p b16 : Nat} {A A5 A6 : Option Addr} {c5 c6 n m : Nat} {hv' : Value} {E : List ((Int × Int) × Int)} {N : Nat} {W : World} (h : Dk w0 w p b16 A A5 A6 c5 c6 n m hv' E N W) (q : Nat) : Dk w0 w p b16 A A5 A6 c5 c6 n m hv' E N (W.drewN q) :=
  ⟨h.en.drewN q, h.rf.no (Fr.drewN _ _ _), h.r5.no (Fr.drewN _ _ _), h.r6.no (Fr.drewN _ _ _), h.bx⟩

set_option maxRecDepth 100000 in
set_option maxHeartbeats 2000000 in
theorem do_keep {w0 w : World} {p n c N : Nat} {hv : Value} {A : Option Addr} {l : List (Int × Int)} (h : Dn w0 w p hv A n c l N) (hn : n ≤ 900) (hN : N ≤ 900) (kd key id : Int) (hk : 0 ≤ kd) (hk2 : kd ≤ 255) (hr : kd % 7 = 5) :
    Calls Try.prog 24 #[.pointer (some ⟨p, 0, none⟩), .slice A n c, .agg #[.int .u8 kd, .int .i64 key], .int .i64 id] w (DoR w0 w p hv n (l.filter evn) N) := by
  obtain ⟨E, hE, rfl⟩ := h.en
  have hlen := h.len
  rw [List.length_map] at hlen
  have F1 : Fr (fun _ => False) w (w.alloc (.cells #[.int .u8 kd, .int .i64 key] 51)) := Fr.alloc _ _ _
  have HRK := Lib.hid (rkeep_any _ A n c (E.map (·.1)) h.len (by omega) (h.rf.no F1))
  have hml : ((E.map (·.1)).filter evn).length ≤ n := Nat.le_trans (List.length_filter_le _ _) (Nat.le_of_eq h.len)
  have hfl : Hid ((E.filter fun e => evn e.1).length = ((E.map (·.1)).filter evn).length) := by rw [← filter_map_fst, List.length_map]; exact rfl
  have HST : Hid (∀ (w2 : World) (A5 : Option Addr) (c5 : Nat), w2.ownsRow (w.alloc (.cells #[.int .u8 kd, .int .i64 key] 51)).heap.size 27 2 (.slice A5 ((E.map (·.1)).filter evn).length c5) ((E.map (·.1)).filter evn).length (((E.map (·.1)).filter evn).flatMap itC) → Gr (w.alloc (.cells #[.int .u8 kd, .int .i64 key] 51)) w2 →
      Calls Try.prog 46 #[.pointer (some ⟨p, 0, none⟩), .func (.func 47) #[] #[.pointer (some ⟨w2.heap.size, 0, none⟩)]] (w2.alloc (.cells #[.slice none 0 0] 42)) fun e w4 => e = .returned (.int .i64 ((n : Int) - ((E.map (·.1)).filter evn).length)) ∧ ∃ hv' A6 c6, Dk w0 w p w2.heap.size A A5 A6 c5 c6 n 0 hv' E N w4 ∧ (∀ b, hv'.ownBlock = some b → w.heap.size ≤ b) ∧ Fr (Lb p hv) w w4) := fun w2 A5 c5 hr5 G2 => by
    have G3 : Gr w (w2.alloc (.cells #[.slice none 0 0] 42)) := (((Gr.refl w).alloc _).then G2.below).alloc _
    have E3 := hE.no G3.fr
    have B3 := Bk.made w2 42 #[.slice none 0 0]
    have hp3 : p ≠ w2.heap.size := by
      have := (hE.lb (.inr rfl)).2
      have := G3.size
      obtain ⟨hs, h1, _⟩ := E3.wl
      exact Bk.ne h1.hd B3 (by decide)
    have hR5 : Rf (w2.alloc (.cells #[.slice none 0 0] 42)) A5 ((E.map (·.1)).filter evn) := (Rf.own hr5).no (Fr.alloc _ _ _)
    have hsz : w.heap.size + 1 ≤ w2.heap.size := by have := G2.size; simpa using this
    refine (keepA lessA (seen_kc (w2.alloc (.cells #[.slice none 0 0] 42)).heap.size w2.heap.size) _ p w0.heap.size N hv (.slice none 0 0) E E3.wl (fun _ _ => trivial) (by omega) ⟨B3, ⟨rfl, .inl ⟨rfl, rfl⟩⟩, Nat.le_refl _⟩ hp3 (by simp [Value.ownBlock]) hE.hp).mono ?_
    rintro e w4 ⟨rfl, hv', v', W4, ho4, ⟨s1, s2, s3⟩, F4⟩
    have hty : ∀ {b : Nat} {cs : Array Value}, Bk (w2.alloc (.cells #[.slice none 0 0] 42)) b 27 cs → ¬ (b = w2.heap.size ∨ (Value.slice none 0 0).ownBlock = some b ∨ b = p) := fun {b cs} hb hx => by
      rcases hx with hx | hx | hx
      · exact Bk.ne hb B3 (by decide) hx
      · simp [Value.ownBlock] at hx
      · obtain ⟨hs, h1, _⟩ := E3.wl
        exact Bk.ne hb h1.hd (by decide) hx
    have F9 : Fr (Lb p hv) w w4 := by
      have h1 : Fr (fun b => Lb p hv b ∨ w.heap.size ≤ b) w (w2.alloc (.cells #[.slice none 0 0] 42)) := G3.fr.wide fun _ _ h => h.elim
      have h2 : Fr (fun b => Lb p hv b ∨ w.heap.size ≤ b) (w2.alloc (.cells #[.slice none 0 0] 42)) w4 := F4.wide fun b _ hx => by
        rcases hx with hx | hx | hx
        · exact .inr (by omega)
        · simp [Value.ownBlock] at hx
        · exact .inl (.inr hx)
      exact (h1.trans h2).wide fun b hb hx => hx.elim (fun h => h) fun h => by omega
    rw [List.length_map, hlen] at s2
    obtain ⟨A6, c6, hv6⟩ := rw_form s2
    subst hv6
    refine ⟨by rw [hfl.out, hlen], hv', A6, c6, ⟨⟨W4, hE.step F9, hE.hp⟩, (h.rf.no G3.fr).fr F4 (fun b cs hb => hty hb), hR5.fr F4 (fun b cs hb => hty hb), Rf.own s2, s1⟩, fun b e => ?_, F9⟩
    have := ho4 b e
    simp at this
    omega
  have HLN := Lib.hid h.len
  clear F1 hE h hlen
  generalize hm9 : ((E.map (·.1)).filter evn).length = m at *
  have HM := Lib.hid hm9
  clear hm9
  go_enter Try.func24, Try.ntmps24
  go_wp2_with fail
  refine HRK.out.mono ?_
  rintro e w2 ⟨v2, rfl, hr2, G2⟩
  obtain ⟨A5, c5, hv5⟩ := rw_form hr2
  subst hv5
  have HK := Lib.hid (HST.out w2 A5 c5 hr2 G2)
  have hcap5 : Hid (m ≤ c5) := by
    obtain ⟨_, ⟨e8, h9⟩ | ⟨g, cap, cur, e9, _, _, h9, _⟩⟩ := hr2
    · rw [h9]; exact Nat.zero_le _
    · injection e9 with _ _ e9
      rw [e9]
      exact h9
  clear HRK HST hr2 G2
  go_wp2_with fail
  refine HK.out.mono ?_
  rintro e w4 ⟨rfl, hv', A6, c6, D4, hh4, F4⟩
  have c16 : w4.cell? ⟨w2.heap.size, 0, none⟩ = some (.slice A6 n c6) := (D4.bx.cell 0).trans rfl
  replace D4 := Lib.hid D4
  replace hh4 := Lib.hid hh4
  replace F4 := Lib.hid F4
  clear HK
  generalize w2.heap.size = b16 at *
  go_wp2_with fail
  go_loopw [127] (fun i wr => ∃ t : Nat, i = .int .i64 t ∧ t ≤ n ∧ Hid (Dk w0 w p b16 A A5 A6 c5 c6 n 0 hv' E N wr) ∧ Hid (Fr (fun _ => False) w4 wr)) (fun i _ => n - (intOf i).toNat)
  case atStart => exact ⟨0, rfl, Nat.zero_le _, D4, Fr.refl _ _⟩
  case round =>
    obtain ⟨t, rfl, ht, hD, hF⟩ := hrel
    by_cases htn : t < n
    · obtain ⟨y, hy⟩ : ∃ y, (E.map (·.1))[t]? = some y := ⟨_, List.getElem?_eq_getElem (by rw [HLN.out]; omega)⟩
      obtain ⟨ad, cs, rfl, hb, d1, d2⟩ := hD.out.rf t y hy
      obtain ⟨ad6, cs6, rfl, hb6, d61, d62⟩ := hD.out.r6 t y hy
      have k16 : wr.cell? ⟨b16, 0, none⟩ = some (.slice (some ad6) n c6) := (hD.out.bx.cell 0).trans rfl
      obtain ⟨y1, y2⟩ := y
      clear hb hb6 hy c16
      go_wp2_with fail
      go_quiet (fail)
      have HD2 := Lib.hid (hD.out.drewN nq)
      have HF2 := Lib.hid (hF.out.trans (Fr.drewN _ _ nq))
      go_wp2
      go_roundw
      case rel => exact ⟨t + 1, by go_num, by omega, HD2, HF2⟩
      case measure => simp [intOf]; omega
    · obtain rfl : t = n := by omega
      have HSA := Lib.hid (same_any w0 wr p m c5 N hv' _ A5 hD.out.en (by rw [filter_map_fst]; exact hD.out.r5) (by rw [hfl.out]) (by omega))
      clear c16
      go_wp2_with fail
      refine HSA.out.mono ?_
      rintro e w6 ⟨rfl, G6⟩
      replace G6 := Lib.hid G6
      go_wp2
      go_returns
      refine ⟨A5, m, c5, hv', N, rfl, ⟨⟨_, hD.out.en.no G6.out.fr, filter_map_fst E⟩, hD.out.r5.no G6.out.fr, HM.out, hcap5.out⟩, by omega, by omega, .inr hh4.out, F4.out.trans ((hF.out.trans G6.out.fr).wide fun _ _ h => h.elim)⟩


theorem do_any {w0 w : World} {p n c N : Nat} {hv : Value} {A : Option Addr} {l : List (Int × Int)} (h : Dn w0 w p hv A n c l N) (hn : n ≤ 900) (hN : N ≤ 900) (kd key id : Int) (hk : 0 ≤ kd) (hk2 : kd ≤ 255) :
    Calls Try.prog 24 #[.pointer (some ⟨p, 0, none⟩), .slice A n c, .agg #[.int .u8 kd, .int .i64 key], .int .i64 id] w (DoR w0 w p hv n (doP l kd key id) N) := by
  by_cases h1 : kd % 7 = 0 ∨ kd % 7 = 1 ∨ kd % 7 = 2
  · rw [doP, if_pos h1]
    exact do_push h hn hN kd key id hk hk2 h1
  by_cases h3 : kd % 7 = 3
  · rw [doP, if_neg h1, if_pos h3]
    exact do_pop h hn hN kd key id hk hk2 h3
  by_cases h5 : kd % 7 = 5
  · rw [doP, if_neg h1, if_neg h3, if_pos h5]
    exact do_keep h hn hN kd key id hk hk2 h5
  rw [doP, if_neg h1, if_neg h3, if_neg h5]
  by_cases h4 : kd % 7 = 4
  · exact do_peek h hn hN kd key id hk hk2 h4
  · exact do_clone h hn hN kd key id hk hk2 (by omega)

def opCells (l : List (Int × Int)) : List Value := l.flatMap fun p => [.int .u8 p.1, .int .i64 p.2]
theorem add_succ (a : Addr) (n : Nat) : a.add (n + 1) = ⟨(a.add n).block, (a.add n).off + 1, none⟩ := by
  unfold Addr.add
  by_cases h : n = 0 <;> simp [h, Nat.add_assoc]
theorem op_at {w W : World} {A : Option Addr} {l : List (Int × Int)} {k : Nat} (hs : Sees w w.heap.size A (opCells l)) (hb : ∀ p ∈ l, 0 ≤ p.1 ∧ p.1 ≤ 255) (hG : Gr w W) (hk : k < l.length) :
    ∃ (kd key : Int) (ad : Addr), A = some ad ∧ (0 ≤ kd ∧ kd ≤ 255) ∧ W.cell? (ad.add (k * 2)) = some (.int .u8 kd) ∧ W.cell? ⟨(ad.add (k * 2)).block, (ad.add (k * 2)).off + 1, none⟩ = some (.int .i64 key) ∧ l[k]? = some (kd, key) := by
  obtain ⟨⟨kd, key⟩, hx⟩ : ∃ x, l[k]? = some x := ⟨_, List.getElem?_eq_getElem hk⟩
  have e1 : (opCells l)[k * 2 + 0]? = some (.int .u8 kd) := flat_at (F := fun p : Int × Int => [.int .u8 p.1, .int .i64 p.2]) (k := 2) (fun _ => rfl) hx (by decide)
  have e2 : (opCells l)[k * 2 + 1]? = some (.int .i64 key) := flat_at (F := fun p : Int × Int => [.int .u8 p.1, .int .i64 p.2]) (k := 2) (fun _ => rfl) hx (by decide)
  obtain ⟨ad, rfl, hab, hc1⟩ := hs _ _ e1
  obtain ⟨ad', e, _, hc2⟩ := hs _ _ e2
  cases e
  have hk' : ∀ j v, w.cell? (ad.add j) = some v → W.cell? (ad.add j) = some v := fun j v h => (World.cell?_of_block (hG.below.block _ (by rw [add_blk]; exact hab))).trans h
  have h2 := hk' _ _ hc2
  rw [add_succ] at h2
  exact ⟨kd, key, ad, rfl, hb _ (List.mem_of_getElem? hx), hk' _ _ hc1, h2, hx⟩
/-- The reference after t operations, numbered from b on. -/
def doA (l : List (Int × Int)) (ops : List (Int × Int)) (b : Int) : Nat → List (Int × Int)
  | 0 => l
  | t + 1 => doP (doA l ops b t) (ops.getD t (0, 0)).1 (ops.getD t (0, 0)).2 (b + t)
theorem doA_succ {l ops : List (Int × Int)} {b : Int} {t : Nat} {kd key : Int} (h : ops[t]? = some (kd, key)) : doA l ops b (t + 1) = doP (doA l ops b t) kd key (b + t) := by
  rw [doA, List.getD_eq_getElem?_getD, h]
  rfl
end Go.Proofs.Ytnepkpcoglfejaa
