/- The walk of ScheduleRun. -/
import Derived.Test.YtambnijbbnohfaaRunC
import Derived.Test.YtambnijbbnohfaaLawOrder
namespace Go.Proofs.Ytambnijbbnohfaa
open Go.RowKit

set_option maxHeartbeats 400000 in
theorem run_neg (A A1 : Option Addr) (n c m c1 : Nat) (most : Int) (w : World) (h : most < 0) :
    Calls Try.prog 18 #[.slice A n c, .slice A1 m c1, .int .i64 most] w fun e w' => e = .returned (.tuple #[.int .i64 0, .int .i64 1]) ∧ Below w.heap.size w w' := by
  go_enter Try.func18, Try.ntmps18
  go_wp2
  go_ret2
  exact ⟨rfl, (Below.refl _ _).alloc (Nat.le_refl _) _⟩

theorem runF_len : ∀ (fuel : Nat) (op ss : List Int) (last : Int) (s : List Int × List Int), (runF actO fuel op ss last s).2.2.1.length = s.1.length + (runF actO fuel op ss last s).1 := by
  intro fuel
  induction fuel with
  | zero =>
    intro op ss last s
    cases op with
    | nil => rfl
    | cons x xs => rfl
  | succ fuel ih =>
    intro op ss last s
    by_cases h : 0 < op.length
    · rw [runF_succ _ _ _ _ _ _ h]
      simp only
      rw [ih]
      have : (actO s (op.getD (place op ss last) 0)).2.1.length = s.1.length + 1 := by simp [actO]
      omega
    · obtain rfl : op = [] := List.eq_nil_of_length_eq_zero (by omega)
      rw [runF_nil]
      rfl

/-- What Run over a crew gives, in the words of ordR. -/
structure RunL (B bl : Nat) (r : List Int × Int) (w : World) (e : Ending) (w' : World) : Prop where
  ret : e = .returned (.tuple #[.int .i64 (r.1.length : Int), .int .i64 r.2])
  log : ∃ vl, Bk w' bl 22 #[vl] ∧ OwnI w' B vl r.1
  below : Below B w w'

theorem run_law (A : Option Addr) (B bl m c1 : Nat) (most : Int) (vw : Value) (gcs : List Nat) (zs ss : List Int) (w : World) (hc : Crew B bl vw gcs zs [] w) (hN : zs.length ≤ 12) (hm : ss.length = m) (hmc : m ≤ c1) (hcM : c1 ≤ maxLen)
    (hs1 : Sees w B A (ss.map (Value.int .u8))) (hby : ∀ x ∈ ss, 0 ≤ x ∧ x ≤ 255) (hM : most ≤ 9223372036854775807) (hz : ∀ x ∈ zs, 1 ≤ x ∧ x ≤ 50) :
    Calls Try.prog 18 #[vw, .slice A m c1, .int .i64 most] w (RunL B bl (ordR zs ss most) w) := by
  by_cases h : most < 0
  · have hr : ordR zs ss most = ([], 1) := if_pos (.inl h)
    rw [hr]
    have hvw : ∃ Aw n cw, vw = .slice Aw n cw := by
      obtain ⟨_, ⟨rfl, h0⟩ | ⟨g, cap, cur, rfl, _⟩⟩ := hc.row
      · exact ⟨_, _, _, rfl⟩
      · exact ⟨_, _, _, rfl⟩
    obtain ⟨Aw, n, cw, rfl⟩ := hvw
    refine (run_neg Aw A n cw m c1 most w h).mono fun e w' ⟨he, hb⟩ => ⟨he, ?_, hb.mono hc.size⟩
    exact (hc.below hb).ex
  · obtain ⟨M, rfl⟩ := Int.eq_ofNat_of_zero_le (show 0 ≤ most by omega)
    have h2 : zs.any (fun n => decide (n < 1)) = false := by
      rw [List.any_eq_false]
      intro x hx
      have := (hz x hx).1
      simp; omega
    have hr : ordR zs ss M = ((runF actO M (upto zs.length) ss (-1) ([], zs)).2.2.1, if (runF actO M (upto zs.length) ss (-1) ([], zs)).2.1 then 0 else 8) := by
      unfold ordR
      rw [if_neg (by rw [h2]; simp), Int.toNat_natCast]
    refine (run_crew A B bl m c1 M vw gcs zs ss w hc (by omega) hm hmc hcM hs1 hby (by unfold maxLen; omega) (fun x hx => by have := hz x hx; omega)).mono fun e w' hh => ⟨?_, ?_, hh.below⟩
    · rw [hr, hh.ret]
      simp only [runF_len, List.length_nil, Nat.zero_add]
    · rw [hr]
      exact hh.crew.ex

set_option maxHeartbeats 400000 in
theorem law_run (A A1 : Option Addr) (n c m c1 : Nat) (most : Int) (zs ss : List Int) (w : World) (hn : zs.length = n) (hN : n ≤ maxLen) (hs : Sees w w.heap.size A (zs.map (Value.int .i64))) (hm : ss.length = m) (hmc : m ≤ c1) (hcM : c1 ≤ maxLen)
    (hs1 : Sees w w.heap.size A1 (ss.map (Value.int .u8))) (hby : ∀ x ∈ ss, 0 ≤ x ∧ x ≤ 255) (hM : most ≤ 9223372036854775807) :
    Calls Try.prog 5 #[.slice A n c, .slice A1 m c1, .int .i64 most] w fun e w' => e = .returned (.bool true) ∧ Below w.heap.size w w' := by
  have HN := Lib.hid hn; clear hn
  have HM := Lib.hid hm; clear hm
  have HBY := Lib.hid hby; clear hby
  go_enter Try.func5, Try.ntmps5
  go_wp2_with fail
  refine (awake_any w).mono ?_
  rintro e w1 ⟨rfl, hb1⟩
  have hsa := hs.go hb1
  have hsb := hs1.go hb1
  clear hs hs1
  go_wp2_with fail
  refine (large_any A A1 n c m c1 w1.heap.size zs w1 HN.out hN (by omega) hsa).mono ?_
  rintro e w1 ⟨rfl, rfl⟩
  by_cases hbig : bigB zs m = true
  · rw [hbig]
    go_wp2
    go_ret
    exact ⟨rfl, hb1⟩
  · have hbig' : bigB zs m = false := by simpa using hbig
    obtain ⟨hl1, hl2, hl3⟩ := big_out hbig'
    have HL3 := Lib.hid hl3
    have hn12 : n ≤ 12 := by rw [← HN.out]; exact hl1
    rw [hbig']
    clear hbig hbig' hl3 hl1
    have HSA := Lib.hid hsa; clear hsa
    have HSB := Lib.hid hsb; clear hsb
    go_wp2
    go_loop [22, 8] (fun i _ => ∃ k : Nat, k ≤ n ∧ i = .int .i64 k ∧ Hid (∀ j (hj : j < zs.length), j < k → 1 ≤ zs[j])) (fun i _ => n - (intOf i).toNat)
    case atStart => exact ⟨0, Nat.zero_le _, rfl, fun j _ h => by omega⟩
    case round =>
      obtain ⟨k, hk, rfl, hall⟩ := hrel
      by_cases hlt : k < n
      · have hk1 : k < zs.length := by rw [HN.out]; exact hlt
        obtain ⟨ad, rfl, hadb, hcell⟩ := HSA.out.look (k := k) (by simpa using hk1)
        simp only [List.getElem_map] at hcell
        by_cases hp : zs[k] < 1
        · go_wp2
          go_ret
          exact ⟨rfl, hb1⟩
        · go_wp2
          go_round
          case rel => exact ⟨k + 1, by omega, by go_num, fun j hj h => by
                by_cases e : j = k
                · subst e; omega
                · exact hall.out j hj (by omega)⟩
          case measure => simp [intOf]; omega
      · have hz : ∀ x ∈ zs, 1 ≤ x ∧ x ≤ 50 := fun x hx => by
          obtain ⟨j, hj, rfl⟩ := List.getElem_of_mem hx
          exact ⟨hall.out j hj (by have := HN.out; omega), HL3.out _ (List.getElem_mem hj)⟩
        have HZ := Lib.hid hz
        clear hz hall
        go_wp2_with fail
        refine (crew_any A n c zs w1 HN.out (by omega) HSA.out).mono ?_
        rintro e w2 ⟨⟨bl, vw, gcs, rfl, hcr⟩, hb2⟩
        have hb2' := hb1.trans (hb2.mono hb1.size)
        have hsb2 := HSB.out.below hb2
        have hsa2 := HSA.out.below hb2
        have H3 := Lib.hid (run_law A1 w1.heap.size bl m c1 most vw gcs zs ss w2 hcr (by rw [HN.out]; exact hn12) HM.out hmc hcM hsb2 HBY.out hM HZ.out)
        go_wp2_with fail
        refine H3.out.mono ?_
        rintro e w3 ⟨rfl, ⟨vl, hbl, hvl⟩, hb3⟩
        have hb3' := hb2'.trans (hb3.mono hb1.size)
        have hsb3 := hsb2.below hb3
        have hsa3 := hsa2.below hb3
        clear H3 hb2 hb2' hsb2 hsa2 hcr hb3
        have H4 := Lib.hid (ref_all A A1 n c m c1 _ _ most zs ss w3 HN.out hn12 hsa3 HM.out hmc hcM hsb3 HBY.out hM HL3.out)
        have hle := hvl.le
        generalize ordR zs ss most = R at *
        go_wp2_with fail
        refine H4.out.mono ?_
        rintro e w4 ⟨⟨v4, rfl, hown4⟩, hb4⟩
        have hbl4 := hbl.below hb4 hbl.lt
        have hvl4 := hvl.below hb4 (Nat.le_refl _)
        have hb4' := hb3'.trans (hb4.mono hb3'.size)
        obtain ⟨A5, c5, rfl, hc5, hs5⟩ := hown4.form
        obtain ⟨A6, c6, rfl, hc6, hs6⟩ := hvl4.form
        have hcl : w4.cell? ⟨bl, 0, none⟩ = some (.slice A6 R.1.length c6) := by rw [hbl4.cell]; rfl
        clear H4 hsa3 hsb3 hb3' hb4 hbl hvl hvl4 hbl4 hown4
        have H5 := Lib.hid (same_any A6 A5 R.1.length c6 R.1.length c5 _ R.1 R.1 w4 rfl rfl hle hle hs6 hs5)
        go_wp2_with fail
        refine H5.out.mono ?_
        rintro e w6 ⟨rfl, hb6⟩
        have hb6' := hb4'.trans (hb6.mono hb4'.size)
        clear H5 hb4' hb6 hs5 hs6 hcl
        simp only [decide_true]
        go_wp2
        go_ret
        exact ⟨rfl, hb6'⟩

end Go.Proofs.Ytambnijbbnohfaa
