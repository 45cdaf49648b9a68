/- schedule.Run over counters. -/
import Derived.Test.YtambnijbbnohfaaStepC
namespace Go.Proofs.Ytambnijbbnohfaa
open Go.RowKit

theorem stepsC {B bl bw gt g : Nat} {vw : Value} {gcs : List Nat} {A : Option Addr} {ss : List Int} {T : Int} (hT : T ≤ 1000000) : Steps 30 #[.pointer (some ⟨bw, 0, none⟩)] actO (InvC B bl bw gt g vw gcs A ss) (OkO T) A ss B gt g where
  enter := Try.call30
  stable := by
    rintro s w w' ⟨⟨c1, c2, c3, c4, c5, c6, c7, vl, c8, c9⟩, h2, h3, h4, h5, h6⟩ hsz hk
    have k8 := hk bl c8.lt (by omega) (by omega)
    have hoff : ∀ b, vl.ownBlock = some b → b ≠ gt ∧ b ≠ g := fun b e => by have := h6 vl c8 b e; simpa using this
    refine ⟨⟨by omega, row_keep c2 fun b e => hk b (c2.lt b e).2 (by have := h4.2.2.2 b e; omega) (by have := h4.2.2.2 b e; omega), c3, c4, c5, fun k hkl => (c6 k hkl).keep (hk _ (c6 k hkl).lt (by have := h4.2.2.1 _ (List.getElem_mem hkl); omega) (by have := h4.2.2.1 _ (List.getElem_mem hkl); omega)), c7, vl, c8.keep k8, c9.keep fun b e => hk b (c9.lt b e).2 (hoff b e).2 (hoff b e).1⟩,
      h2.kept fun b hb => hk b (by omega) (by omega) (by omega), h3.keep (hk bw h3.lt (by omega) (by omega)), h4, ⟨h5.1, h5.2.1, by omega, by omega⟩, fun v hv => ?_⟩
    exact h6 v (show Bk w bl 22 #[v] from k8.symm.trans hv)
  script := fun s w h => h.see.self
  call := by
    rintro ⟨log, left⟩ op i w hinv hok hi
    obtain ⟨h1, h2, h3, h4⟩ := hok.at hi
    exact (stepC_any B bl bw gt g vw gcs A ss log left i w hinv h1 h2 h3 h4 (ok_len hT hok)).mono fun e w' h => ⟨h.ret, h.inv, h.below, h.gt, h.g⟩
  next := fun s op p hok hp => hok.next hp

structure RunC (B bl : Nat) (vw : Value) (gcs : List Nat) (R : Nat × Bool × (List Int × List Int)) (w : World) (e : Ending) (w' : World) : Prop where
  ret : e = .returned (.tuple #[.int .i64 R.1, .int .i64 (if R.2.1 then 0 else 8)])
  crew : Crew B bl vw gcs R.2.2.2 R.2.2.1 w'
  below : Below B w w'

theorem Crew.lts {B bl : Nat} {vw : Value} {gcs : List Nat} {left log : List Int} {w : World} (h : Crew B bl vw gcs left log w) : bl < w.heap.size ∧ (∀ x ∈ gcs, x < w.heap.size) ∧ (∀ b, vw.ownBlock = some b → b < w.heap.size) := by
  obtain ⟨c1, c2, c3, c4, c5, c6, c7, vl, c8, c9⟩ := h
  refine ⟨c8.lt, fun x hx => ?_, fun b e => (c2.lt b e).2⟩
  obtain ⟨j, hj, rfl⟩ := List.getElem_of_mem hx
  exact (c6 j hj).lt
theorem Crew.below {B bl : Nat} {vw : Value} {gcs : List Nat} {left log : List Int} {w w' : World} (h : Crew B bl vw gcs left log w) (hb : Below w.heap.size w w') : Crew B bl vw gcs left log w' := by
  obtain ⟨c1, c2, c3, c4, c5, c6, c7, vl, c8, c9⟩ := h
  exact ⟨Nat.le_trans c1 hb.size, row_keep c2 fun b e => hb.block b (c2.lt b e).2, c3, c4, c5, fun k hk => (c6 k hk).below hb (c6 k hk).lt, c7, vl, c8.below hb c8.lt, c9.below hb (Nat.le_refl _)⟩

theorem invC_start {B bl n m c1 gt : Nat} {vw v : Value} {gcs : List Nat} {A A1 : Option Addr} {ss zs : List Int} {last : Int} {w w3 : World} (hc : Crew B bl vw gcs zs [] w) (hs : Sees w B A (ss.map (Value.int .u8))) (hgt : gt = w.heap.size + 1)
    (hb3 : Below gt (w.alloc (.cells #[vw] 31)) w3) (hblk : Bk w3 gt 61 #[v, .slice A1 m c1, .int .i64 last]) (hown3 : OwnI w3 (gt + 1) v (upto n)) :
    InvC B bl w.heap.size gt (v.ownBlock.getD gt) vw gcs A ss ([], zs) w3 ∧ Below B w w3 := by
  obtain ⟨l1, l2, l3⟩ := hc.lts
  have hbw : Below w.heap.size w w3 := ((Below.refl _ _).alloc (Nat.le_refl _) _).trans (hb3.mono (by omega))
  have hsz := hc.size
  have hlt := hblk.lt
  have hg : v.ownBlock.getD gt = gt ∨ gt < v.ownBlock.getD gt ∧ v.ownBlock.getD gt < w3.heap.size := by
    cases h : v.ownBlock with
    | none => exact .inl rfl
    | some b => exact .inr (by have := hown3.lt b h; simp only [Option.getD_some]; omega)
  generalize v.ownBlock.getD gt = g at *
  refine ⟨⟨hc.below hbw, (hs.below (hbw.mono hsz)), (Bk.made w 31 #[vw]).below hb3 (by omega), ⟨by omega, by omega, fun x hx => by have := l2 x hx; omega, fun b e => by have := l3 b e; omega⟩, ⟨by omega, by omega, by omega, by omega⟩, fun v2 hv2 b e => ?_⟩, hbw.mono hsz⟩
  obtain ⟨vl, k1, k2⟩ := hc.ex
  obtain rfl := (k1.below hbw k1.lt).uniq hv2
  have := (k2.lt b e).2
  simp
  omega

set_option maxHeartbeats 400000 in
theorem run_crew (A : Option Addr) (B bl m c1 M : Nat) (vw : Value) (gcs : List Nat) (zs ss : List Int) (w : World) (hc : Crew B bl vw gcs zs [] w) (hN : zs.length ≤ 1000) (hm : ss.length = m) (hmc : m ≤ c1) (hcM : c1 ≤ maxLen)
    (hs1 : Sees w B A (ss.map (Value.int .u8))) (hby : ∀ x ∈ ss, 0 ≤ x ∧ x ≤ 255) (hM : M ≤ maxLen) (hz : ∀ x ∈ zs, 1 ≤ x ∧ x ≤ 1000) :
    Calls Try.prog 18 #[vw, .slice A m c1, .int .i64 M] w (RunC B bl vw gcs (runF actO M (upto zs.length) ss (-1) ([], zs)) w) := by
  have hlen : gcs.length = zs.length := hc.len.symm
  obtain ⟨n, hn⟩ : ∃ n, gcs.length = n := ⟨_, rfl⟩
  have hzn : zs.length = n := by omega
  rw [hzn] at hN ⊢
  have hvw : ∃ Aw cw, vw = .slice Aw n cw ∧ Sees w w.heap.size Aw (gcs.map wk) := by
    have := hc.row
    obtain ⟨_, ⟨rfl, h0⟩ | ⟨g, cap, cur, rfl, _⟩⟩ := id this
    · obtain rfl : n = 0 := by omega
      have : gcs = [] := List.eq_nil_of_length_eq_zero hn
      subst this
      exact ⟨none, 0, rfl, Sees.nil⟩
    · exact ⟨_, cap, by rw [hn], Sees.own this⟩
  obtain ⟨Aw, cw, rfl, hsw⟩ := hvw
  have HC := Lib.hid (containsNil_any Aw n cw w.heap.size (gcs.map wk) (w.alloc (.cells #[.slice Aw n cw] 31)) (by rw [List.length_map]; exact hn) (by omega) (hsw.alloc (Nat.le_refl _) _) (fun v hv => by simp only [List.mem_map] at hv; obtain ⟨g, _, rfl⟩ := hv; exact ⟨_, _, rfl⟩))
  have hM0 : ¬ (M : Int) < 0 := by omega
  have HM := Lib.hid hm; clear hm
  have HZ := Lib.hid hz; clear hz
  have HBY := Lib.hid hby; clear hby
  have HZN := Lib.hid hzn; clear hzn
  clear hn hlen hsw
  go_enter Try.func18, Try.ntmps18
  go_wp2_with fail
  refine HC.out.mono ?_
  rintro e w' ⟨rfl, rfl⟩
  go_wp2_with fail
  refine (begin_any n A m c1 _ (by omega)).mono ?_
  rintro e w3 ⟨v, rfl, hblk, hown3, hb3⟩
  rw [World.size_alloc] at hblk hown3 hb3 ⊢
  obtain ⟨hinv, hbel3⟩ := invC_start hc hs1 rfl hb3 hblk hown3
  have hB := hc.size
  have H3 : Calls Try.prog 24 _ w3 _ := run_any (stepsC (T := 1000000) (Int.le_refl _)) M c1 v (upto n) ([], zs) w3 hM (by rw [HM.out]; exact hblk) hown3 (fun b e => by rw [e]; rfl) (by rw [HM.out]; exact hmc) hcM (by rw [upto_len]; omega) hinv
    ⟨by rw [← HZN.out]; exact (unf_all zs (fun x hx => by have := HZ.out x hx; omega)).symm, fun x hx => by have := HZ.out x hx; omega, by
      have := sum_le 1000 zs (fun x hx => (HZ.out x hx).2)
      have := HZN.out
      simp only [List.length_nil]
      omega⟩ (by omega) HBY.out
  have H4 := Lib.hid H3
  clear H3 hb3 hblk hown3
  generalize runF actO M (upto n) ss (-1) ([], zs) = R at *
  go_wp2_with fail
  refine H4.out.mono ?_
  rintro e w5 ⟨rfl, ⟨hcr, _, _, _, _, _⟩, hbel5⟩
  have hbel := hbel3.trans hbel5
  clear hbel3 hbel5 hinv H4
  obtain ⟨R1, R2, R3, R4⟩ := R
  have hfin : RunC B bl (.slice Aw n cw) gcs (R1, R2, R3, R4) w (.returned (.tuple #[.int .i64 R1, .int .i64 (if R2 = true then 0 else 8)])) w5 := ⟨rfl, hcr, hbel⟩
  have HF := Lib.hid hfin
  clear hfin hcr hbel
  generalize (if R2 = true then (0 : Int) else 8) = err at *
  simp only
  go_wp2
  go_ret2
  exact HF.out

end Go.Proofs.Ytambnijbbnohfaa
