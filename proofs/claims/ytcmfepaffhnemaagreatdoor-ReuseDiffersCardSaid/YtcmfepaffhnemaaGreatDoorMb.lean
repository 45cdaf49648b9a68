/- Natural numbers and integers. -/
import Derived.Test.YtcmfepaffhnemaaGreatDoorMa
import Derived.Test.YtcmfepaffhnemaaGreatDoorLaid
import Derived.Lib.ItoaNum
import Derived.Deep.RegionHeld3
set_option linter.unusedVariables false
namespace Go.Proofs.YtcmfepaffhnemaaGreatDoor
open Go.RowKit

attribute [local go_sem] Oper.semAt_some

theorem bitLen_bd {x : Nat} (h : 0 < x) (hx : x < B32) : 0 < Lib.bitLen x ∧ Lib.bitLen x ≤ 32 := by
  obtain ⟨h1, h2, _⟩ := Lib.bitLenAux_bounds 64 x (Nat.lt_trans hx (by decide)) (by omega)
  refine ⟨h1, Nat.le_of_not_lt fun h3 => ?_⟩
  have h4 : 2 ^ 32 ≤ 2 ^ (Lib.bitLenAux 64 x - 1) := Nat.pow_le_pow_right (by decide) (by unfold Lib.bitLen at h3; omega)
  rw [B32_eq] at hx
  omega
set_option maxRecDepth 100000 in
set_option maxHeartbeats 1000000 in
theorem bits_any (w : World) (x : Sv) (l : List Nat) (hx : x.Num w l) (hl : l.length ≤ 1000000) :
    Calls Tryz.prog 150 #[.slice x.A x.n x.c] w fun e w' => (∃ r : Nat, e = .returned (.int .i64 r) ∧ r ≤ 100000000 ∧ ((r : Int) == 0) = decide (val l = 0)) ∧ Gr w w' := by
  have H1 := Lib.hid (trim_any w x l hx)
  have HA : Hid ((limbs (val l)).length ≤ 1000000) := Nat.le_trans (limbs_len_le (val_lt hx.lim)) hl
  clear hx hl
  go_enter Tryz.func150, Tryz.ntmps150
  go_wp2_with fail
  refine H1.out.mono ?_
  rintro e w1 ⟨u, rfl, hu, G1⟩
  obtain ⟨A, n, c⟩ := u
  have HN := Lib.hid hu.len
  have hn9 : n ≤ 1000000 := Nat.le_trans (Nat.le_of_eq HN.out.symm) HA.out
  have HU := Lib.hid hu
  have HG1 := Lib.hid G1
  clear hu G1 H1
  simp only [Sv.v] at *
  by_cases h0 : n = 0
  · have HZ : Hid (val l = 0) := limbs_len0.1 (HN.out.trans h0)
    have hd : ((n : Int) == 0) = true := by simp [h0]
    go_wp2
    go_ret
    exact ⟨⟨0, rfl, by omega, by rw [HZ.out]; rfl⟩, HG1.out⟩
  · have HZ : Hid (decide (val l = 0) = false) := by
      have h : ¬ val l = 0 := fun h => h0 (HN.out.symm.trans (limbs_len0.2 h))
      exact decide_eq_false h
    have hd : ((n : Int) == 0) = false := by simp; omega
    obtain ⟨j, rfl⟩ : ∃ j, n = j + 1 := ⟨n - 1, by omega⟩
    obtain ⟨p, ad, hp, hp9, hAe, hbl, d1⟩ := HU.out.at (i := j) (Nat.lt_succ_self j)
    simp only at hAe
    subst hAe
    have hp0 : p ≠ 0 := by
      have := limbs_cano (val l) p
      rw [List.getLast?_eq_getElem?, HN.out] at this
      exact this hp
    obtain ⟨hpos, hpos2⟩ := bitLen_bd (x := p) (by omega) hp9
    have HL := Lib.hid (fun W => Tryz.bits_Len32 (p : Int) W (by omega) (by rw [B32_eq] at hp9; omega))
    clear hp hbl hp0
    have hj : ((j + 1 : Nat) : Int) - 1 = j := by omega
    rw [Int.toNat_natCast] at HL
    generalize Lib.bitLen p = q at *
    go_wp2_with fail
    refine (HL.out w1).mono ?_
    rintro e w2 ⟨rfl, rfl⟩
    clear HL
    have hw : IntKind.i64.wrap (32 * (j : Int) + q) = 32 * (j : Int) + q := IntWalk.i64_in _ (by omega)
    go_wp2
    go_ret
    exact ⟨⟨32 * j + q, by go_num, by omega, by rw [HZ.out]; simp; omega⟩, HG1.out⟩

set_option maxRecDepth 100000 in
set_option maxHeartbeats 1000000 in
theorem under_any (w : World) (x : Rv) (q : Q) (hx : x.Is w q) (hl : (limbs q.den).length ≤ 1000000) :
    Calls Tryz.prog 153 #[x.v] w fun e w' => ∃ y : Sv, e = .returned y.v ∧ y.Num w' (limbs q.un) ∧ Gr w w' := by
  obtain ⟨s, num, den⟩ := x
  have b1 := Bk.made w 41 #[.bool s, .slice num.A num.n num.c, .slice den.A den.n den.c]
  have HG1 := Lib.hid ((Gr.refl w).alloc (.cells #[.bool s, .slice num.A num.n num.c, .slice den.A den.n den.c] 41))
  have HB := Lib.hid b1
  have HD := Lib.hid (hx.den.gr HG1.out)
  have H1 := Lib.hid (bits_any _ den _ HD.out hl)
  have HO := Lib.hid one_any
  rw [val_limbs] at H1
  have c2 := b1.cell 2
  clear hx hl b1
  simp only [Rv.v] at *
  go_enter Tryz.func153, Tryz.ntmps153
  go_wp2_with fail
  refine H1.out.mono ?_
  rintro e w1 ⟨⟨r, rfl, hr, hr0⟩, G1⟩
  have HG2 := Lib.hid (HG1.out.trans G1)
  have HD2 := Lib.hid (HD.out.gr G1)
  have c3 := (G1.bk HB.out).cell 2
  clear G1 H1 HB c2
  by_cases h0 : q.den = 0
  · have HU : Hid (q.un = 1) := by unfold Q.un; exact if_pos h0
    rw [decide_eq_true h0] at hr0
    go_wp2_with fail
    refine (HO.out w1).mono ?_
    rintro e w2 ⟨y, rfl, hy, G2⟩
    have HY := Lib.hid hy
    have HG3 := Lib.hid (HG2.out.trans G2)
    clear hy G2
    go_wp2
    go_ret
    exact ⟨y, rfl, by rw [HU.out]; exact HY.out, HG3.out⟩
  · have HU : Hid (q.un = q.den) := by unfold Q.un; exact if_neg h0
    rw [decide_eq_false h0] at hr0
    go_wp2
    go_ret
    exact ⟨den, rfl, by rw [HU.out]; exact HD2.out, HG2.out⟩
end Go.Proofs.YtcmfepaffhnemaaGreatDoor

set_option linter.unusedVariables false
namespace Go.Proofs.YtcmfepaffhnemaaGreatDoor
open Go.RowKit

attribute [local go_sem] Oper.semAt_some

set_option maxRecDepth 100000 in
set_option maxHeartbeats 2000000 in
theorem div_any (w : World) (x y : Sv) (a b : Nat) (hx : x.Num w (limbs a)) (hy : y.Num w (limbs b)) (ha : (limbs a).length ≤ 1000000) (hb0 : 0 < b) (hb : b < B32) :
    Calls Tryz.prog 203 #[.slice x.A x.n x.c, .slice y.A y.n y.c] w fun e w' => ∃ p q : Sv, e = .returned (.tuple #[p.v, q.v, .int .i64 0]) ∧ p.Num w' (limbs (a / b)) ∧ q.Num w' (limbs (a % b)) ∧ Gr w w' := by
  have H1 := Lib.hid (trim_any w x _ hx)
  rw [val_limbs] at H1
  have HY := Lib.hid hy
  have HA := Lib.hid ha
  have HL1 := Lib.hid (limbs_one (n := b) (by omega) hb)
  have HBB := Lib.hid hb
  clear hx hy ha hb
  go_enter Tryz.func203, Tryz.ntmps203
  go_wp2_with fail
  refine H1.out.mono ?_
  rintro e w1 ⟨u, rfl, hu, G1⟩
  have HU := Lib.hid hu
  have HG1 := Lib.hid G1
  have H2 := Lib.hid (trim_any w1 y _ (HY.out.gr G1))
  rw [val_limbs] at H2
  clear hu G1 H1 HY
  go_wp2_with fail
  refine H2.out.mono ?_
  rintro e w2 ⟨v, rfl, hv, G2⟩
  have HG2 := Lib.hid (HG1.out.trans G2)
  have HU2 := Lib.hid (HU.out.gr G2)
  have HV := Lib.hid hv
  have H3 := Lib.hid (cmp_any w2 u v _ _ (HU.out.gr G2) hv)
  rw [val_limbs, val_limbs] at H3
  clear hv G2 HG1 HU H2
  obtain ⟨B, m, d⟩ := v
  have hm : m = 1 := by
    have := HV.out.len
    rw [HL1.out] at this
    exact this.symm
  subst hm
  simp only [Sv.v] at *
  go_wp2_with fail
  refine H3.out.mono ?_
  rintro e w3 ⟨rfl, G3⟩
  have HG3 := Lib.hid (HG2.out.trans G3)
  have HU3 := Lib.hid (HU2.out.gr G3)
  have HV3 := Lib.hid (HV.out.gr G3)
  clear G3 HG2 HU2 HV H3
  by_cases hab : a < b
  · have HC : Hid (cmpN a b = -1) := cmpN_lt hab
    rw [HC.out]
    have H4 := Lib.hid (make_any w3 u _ HU3.out HA.out)
    rw [val_limbs] at H4
    have E1 : Hid (a / b = 0) := Nat.div_eq_of_lt hab
    have E2 : Hid (a % b = a) := Nat.mod_eq_of_lt hab
    go_wp2_with fail
    refine H4.out.mono ?_
    rintro e w4 ⟨z, rfl, hz, G4⟩
    have HZ := Lib.hid hz
    have HG4 := Lib.hid (HG3.out.trans G4)
    clear hz G4 H4
    go_wp2
    go_returns
    exact ⟨Sv.none, z, rfl, by rw [E1.out, limbs_zero]; exact Sv.Num.none _, by rw [E2.out]; exact HZ.out, HG4.out⟩
  · have hcn : decide (cmpN a b < 0) = false := by
      unfold cmpN
      rw [if_neg hab]
      split <;> simp
    generalize cmpN a b = cm at *
    obtain ⟨p, ad, hp, hp9, hAe, hbl, d1⟩ := HV3.out.at (i := 0) Nat.one_pos
    simp only at hAe
    subst hAe
    rw [HL1.out] at hp
    obtain rfl : b = p := by simpa using hp
    rw [add_zero] at d1
    have H4 := Lib.hid (fun W hW => short_any W u _ b (HU3.out.gr hW) HA.out hb0 HBB.out)
    rw [val_limbs] at H4
    clear hp hp9 hbl
    go_wp2_with fail
    refine (H4.out _ (Gr.refl _)).mono ?_
    rintro e w4 ⟨z, z2, rfl, hz, hz2, G4⟩
    have HZ := Lib.hid hz
    have HZ2 := Lib.hid hz2
    have HG4 := Lib.hid (HG3.out.trans G4)
    clear hz hz2 G4 H4
    go_wp2
    go_returns
    exact ⟨z, z2, rfl, HZ.out, HZ2.out, HG4.out⟩

set_option maxRecDepth 100000 in
set_option maxHeartbeats 2000000 in
theorem gcd_any (w : World) (x y : Sv) (a b : Nat) (hx : x.Num w (limbs a)) (hy : y.Num w (limbs b)) (ha : (limbs a).length ≤ 1000000) (hb0 : 0 < b) (hb : b < B32) :
    Calls Tryz.prog 202 #[.slice x.A x.n x.c, .slice y.A y.n y.c] w fun e w' => ∃ p : Sv, e = .returned p.v ∧ p.Num w' (limbs (Nat.gcd a b)) ∧ Gr w w' := by
  have H1 := Lib.hid (trim_any w x _ hx)
  rw [val_limbs] at H1
  have HY := Lib.hid hy
  have HA := Lib.hid ha
  have HL1 := Lib.hid (limbs_one (n := b) (by omega) hb)
  have HBB := Lib.hid hb
  have hb9 : b < 4294967296 := hb
  clear hx hy ha hb
  go_enter Tryz.func202, Tryz.ntmps202
  go_wp2_with fail
  refine H1.out.mono ?_
  rintro e w1 ⟨u, rfl, hu, G1⟩
  have HU := Lib.hid hu
  have HG1 := Lib.hid G1
  have H2 := Lib.hid (trim_any w1 y _ (HY.out.gr G1))
  rw [val_limbs] at H2
  clear hu G1 H1 HY
  go_wp2_with fail
  refine H2.out.mono ?_
  rintro e w2 ⟨v, rfl, hv, G2⟩
  have HG2 := Lib.hid (HG1.out.trans G2)
  have HU2 := Lib.hid (HU.out.gr G2)
  have HV := Lib.hid hv
  have hm : v.n = 1 := by
    have := HV.out.len
    rw [HL1.out] at this
    exact this.symm
  clear hv G2 HG1 HU H2
  obtain ⟨B, m, d⟩ := v
  simp only at hm
  subst hm
  simp only [Sv.v] at *
  go_wp2
  go_loopw [0, 1] (fun s0 s1 wr => s0 = .slice u.A u.n u.c ∧ s1 = .slice B 1 d ∧ wr = w2) (fun _ _ _ => 0)
  case atStart => exact ⟨rfl, rfl, rfl⟩
  case round =>
    obtain ⟨rfl, rfl, rfl⟩ := hrel
    have H3 := Lib.hid (div_any wr u ⟨B, 1, d⟩ a b HU2.out HV.out HA.out hb0 HBB.out)
    have hr9 : a % b < 4294967296 := Nat.lt_trans (Nat.mod_lt _ hb0) hb9
    have HGC : Hid (Nat.gcd b (a % b) = Nat.gcd a b) := by rw [Nat.gcd_comm a b, Nat.gcd_rec b a, Nat.gcd_comm]; exact rfl
    go_wp2_with fail
    refine H3.out.mono ?_
    rintro e w3 ⟨q, r, rfl, hq, hr, G3⟩
    have HG3 := Lib.hid (HG2.out.trans G3)
    have H4 := Lib.hid (uint_any w3 ⟨B, 1, d⟩ b (HV.out.gr G3) (by omega))
    have HR := Lib.hid hr
    clear hq hr G3 H3
    generalize a % b = rr at *
    go_wp2_with fail
    refine H4.out.mono ?_
    rintro e w4 ⟨rfl, G4⟩
    have HG4 := Lib.hid (HG3.out.trans G4)
    have H5 := Lib.hid (uint_any w4 r rr (HR.out.gr G4) (by omega))
    clear G4 H4
    go_wp2_with fail
    refine H5.out.mono ?_
    rintro e w5 ⟨rfl, G5⟩
    have HG5 := Lib.hid (HG4.out.trans G5)
    clear G5 H5
    go_wp2
    go_loopw [11, 13] (fun s s' wx => ∃ p q : Nat, s = .int .u64 p ∧ s' = .int .u64 q ∧ p < 4294967296 ∧ q < 4294967296 ∧ Hid (Nat.gcd p q = Nat.gcd a b) ∧ Hid (Gr w wx)) (fun _ s' _ => (intOf s').toNat)
    case atStart => exact ⟨b, rr, rfl, rfl, hb9, hr9, HGC, HG5⟩
    case round =>
      obtain ⟨p, q, rfl, rfl, hp, hq, hgc, hG⟩ := hrel
      by_cases h0 : 0 < q
      · have HN : Hid (Nat.gcd q (p % q) = Nat.gcd a b) := by rw [← hgc.out, Nat.gcd_comm p q, Nat.gcd_rec q p, Nat.gcd_comm]; exact rfl
        have hlt : p % q < q := Nat.mod_lt _ h0
        have E0 : Hid ((p : Int) % (q : Int) = ((p % q : Nat) : Int)) := (Int.natCast_emod p q).symm
        have HGd : Hid (Gr w wr.drew) := hG.out.drew
        have hq0 : ¬ (q : Int) = 0 := by omega
        have hq1 : ((q : Int) == 0) = false := by simp; omega
        go_wp2
        go_region
        all_goals go_wp2
        all_goals go_roundw
        all_goals rw [E0.out]
        all_goals first
          | exact ⟨q, p % q, rfl, rfl, hq, by omega, HN, HGd⟩
          | (simp [intOf]; exact hlt)
          | (simp [intOf]; omega)
      · obtain rfl : q = 0 := by omega
        have hgg : Hid (Nat.gcd a b = p) := by rw [← hgc.out]; exact Nat.gcd_zero_right p
        have HO := Lib.hid (fun W => of_any W p (by omega))
        go_wp2_with fail
        refine (HO.out _).mono ?_
        rintro e w6 ⟨z, rfl, hz, G6⟩
        have HZ := Lib.hid hz
        have HG6 := Lib.hid (hG.out.trans G6)
        clear hz G6 HO
        go_wp2
        go_ret
        exact ⟨z, rfl, by rw [hgg.out]; exact HZ.out, HG6.out⟩
end Go.Proofs.YtcmfepaffhnemaaGreatDoor

set_option linter.unusedVariables false
namespace Go.Proofs.YtcmfepaffhnemaaGreatDoor
open Go.RowKit

section
variable {w w' : World} {p t : Nat}
theorem Bk.cell_in {cs : Array Value} (h : Bk w p t cs) {a : Addr} (ha : a.block = p) {u : Value} (hu : w.cell? a = some u) : u ∈ cs.toList := by
  unfold World.cell? at hu
  rw [ha, show w.heap[p]? = some (.cells cs t (0, 0)) from h] at hu
  simp only at hu
  split at hu
  · cases hu
  · rw [← Array.getElem?_toList] at hu
    exact List.mem_of_getElem? hu
/-- A row whose cells do not occur in block p is kept by stores into block p. -/
theorem Sees.fr {A : Option Addr} {xs : List Value} {cs : Array Value} (h : Sees w w.heap.size A xs) (F : Fr (fun b => b = p) w w') (hb : Bk w p t cs) (hd : ∀ u, u ∈ xs → u ∉ cs.toList) : Sees w' w'.heap.size A xs := fun i u hu => by
  obtain ⟨ad, e, hl, hc⟩ := h i u hu
  have hne : ad.block ≠ p := fun e2 => hd u (List.mem_of_getElem? hu) (hb.cell_in (by rw [add_blk]; exact e2) hc)
  exact ⟨ad, e, Nat.lt_of_lt_of_le hl F.size, (World.cell?_of_block (F.keep _ (by rw [add_blk]; exact hl) (by rw [add_blk]; exact hne))).trans hc⟩
theorem Sv.Is.fr {x : Sv} {k : Nat} {ds : List Value} {cs : Array Value} (h : x.Is w k ds) (F : Fr (fun b => b = p) w w') (hb : Bk w p t cs) (hd : ∀ u, u ∈ ds → u ∉ cs.toList) : x.Is w' k ds := ⟨h.len, h.cap, h.max, h.nil, h.see.fr F hb hd⟩
/-- No cell is a limb. -/
def NoLimb (cs : Array Value) : Prop := ∀ y : Nat, Value.int .u32 (y : Int) ∉ cs.toList
theorem Sv.Num.fr {x : Sv} {l : List Nat} {cs : Array Value} (h : x.Num w l) (F : Fr (fun b => b = p) w w') (hb : Bk w p t cs) (hd : NoLimb cs) : x.Num w' l := ⟨h.is.fr F hb fun u hu => by
  obtain ⟨y, _, rfl⟩ := List.mem_map.1 hu
  exact hd y, h.lim, h.ty.keep fun ad ha hn => by
    obtain ⟨y, ad', _, _, ha', hl, hc⟩ := h.at hn
    rw [ha] at ha'
    injection ha' with ha'
    subst ha'
    refine F.keep _ hl fun e => hd y (hb.cell_in ?_ hc)
    rw [add_blk]; exact e⟩
/-- What is stored into blocks of other types does not touch limbs. -/
theorem Sv.Num.tf {x : Sv} {l : List Nat} {X : Nat → Prop} (h : x.Num w l) (F : Fr X w w') (hX : ∀ b cs fr, X b → w.heap[b]? ≠ some (.cells cs 211 fr)) : x.Num w' l := by
  have hk : ∀ ad, x.A = some ad → 0 < x.n → w'.heap[ad.block]? = w.heap[ad.block]? ∧ ad.block < w.heap.size := fun ad ha hn => by
    obtain ⟨cs, fr, hh⟩ := h.ty ad ha hn
    have hlt : ad.block < w.heap.size := by
      rcases Nat.lt_or_ge ad.block w.heap.size with h1 | h1
      · exact h1
      · rw [Array.getElem?_eq_none h1] at hh; cases hh
    exact ⟨F.keep _ hlt fun hx => hX _ cs fr hx hh, hlt⟩
  refine ⟨⟨h.is.len, h.is.cap, h.is.max, h.is.nil, fun i u hu => ?_⟩, h.lim, h.ty.keep fun ad ha hn => (hk ad ha hn).1⟩
  obtain ⟨ad, e, hl, hc⟩ := h.is.see i u hu
  have hn : 0 < x.n := by
    have h1 := (List.getElem?_eq_some_iff.1 hu).1
    have h2 := h.is.len
    omega
  exact ⟨ad, e, Nat.lt_of_lt_of_le hl F.size, (World.cell?_of_block (by rw [add_blk]; exact (hk ad e hn).1)).trans hc⟩
theorem Rv.Is.tf {x : Rv} {q : Q} {X : Nat → Prop} (h : x.Is w q) (F : Fr X w w') (hX : ∀ b cs fr, X b → w.heap[b]? ≠ some (.cells cs 211 fr)) : x.Is w' q := ⟨h.neg, h.num.tf F hX, h.den.tf F hX⟩
theorem Bk.not_ty {cs : Array Value} {e : TypeId} (h : Bk w p t cs) (hne : t ≠ e) : ∀ cs' fr, w.heap[p]? ≠ some (.cells cs' e fr) := fun cs' fr hh => by
  unfold Bk at h
  rw [h] at hh
  injection hh with hh
  injection hh with _ h2
  exact hne h2
theorem Iv.Is.fr {x : Iv} {s : Bool} {m : Nat} {cs : Array Value} (h : x.Is w s m) (F : Fr (fun b => b = p) w w') (hb : Bk w p t cs) (hd : NoLimb cs) : x.Is w' s m := ⟨h.neg, h.mag.fr F hb hd⟩
theorem Rv.Is.fr {x : Rv} {q : Q} {cs : Array Value} (h : x.Is w q) (F : Fr (fun b => b = p) w w') (hb : Bk w p t cs) (hd : NoLimb cs) : x.Is w' q := ⟨h.neg, h.num.fr F hb hd, h.den.fr F hb hd⟩
theorem noLimb_rat (s : Bool) (A B : Option Addr) (n c m d : Nat) : NoLimb #[.bool s, .slice A n c, .slice B m d] := fun z h => by simp at h
theorem noLimb_int (s : Bool) (A : Option Addr) (n c : Nat) : NoLimb #[.bool s, .slice A n c] := fun z h => by simp at h
theorem Bk.put3 {a b c : Value} (h : Bk w p t #[a, b, c]) (x y z : Value) :
    Bk (((w.setCell ⟨p, 0, none⟩ x).setCell ⟨p, 1, none⟩ y).setCell ⟨p, 2, none⟩ z) p t #[x, y, z] ∧ Fr (fun b => b = p) w (((w.setCell ⟨p, 0, none⟩ x).setCell ⟨p, 1, none⟩ y).setCell ⟨p, 2, none⟩ z) := by
  refine ⟨?_, Fr.trans (Fr.trans (Fr.set w ⟨p, 0, none⟩ x rfl) (Fr.set _ ⟨p, 1, none⟩ y rfl)) (Fr.set _ ⟨p, 2, none⟩ z rfl)⟩
  have := ((Bk.put h 0 x).put 1 y).put 2 z
  simpa using this
theorem Bk.put2 {a b : Value} (h : Bk w p t #[a, b]) (x y : Value) :
    Bk ((w.setCell ⟨p, 0, none⟩ x).setCell ⟨p, 1, none⟩ y) p t #[x, y] ∧ Fr (fun b => b = p) w ((w.setCell ⟨p, 0, none⟩ x).setCell ⟨p, 1, none⟩ y) := by
  refine ⟨?_, Fr.trans (Fr.set w ⟨p, 0, none⟩ x rfl) (Fr.set _ ⟨p, 1, none⟩ y rfl)⟩
  have := (Bk.put h 0 x).put 1 y
  simpa using this
theorem Bk.c2 {a b : Value} (h : Bk w p t #[a, b]) : w.cell? ⟨p, 0, none⟩ = some a ∧ w.cell? ⟨p, 1, none⟩ = some b := ⟨h.cell 0, h.cell 1⟩
theorem Bk.c3 {a b c : Value} (h : Bk w p t #[a, b, c]) : w.cell? ⟨p, 0, none⟩ = some a ∧ w.cell? ⟨p, 1, none⟩ = some b ∧ w.cell? ⟨p, 2, none⟩ = some c := ⟨h.cell 0, h.cell 1, h.cell 2⟩
theorem Bk.c4 {a b c d : Value} (h : Bk w p t #[a, b, c, d]) : w.cell? ⟨p, 0, none⟩ = some a ∧ w.cell? ⟨p, 1, none⟩ = some b ∧ w.cell? ⟨p, 2, none⟩ = some c ∧ w.cell? ⟨p, 3, none⟩ = some d := ⟨h.cell 0, h.cell 1, h.cell 2, h.cell 3⟩
theorem Gr.fr_at {w0 : World} (G : Gr w0 w) (F : Fr (fun b => b = p) w w') (hp : w0.heap.size ≤ p) : Gr w0 w' := G.step F fun b _ e => by rw [e]; exact hp
end
end Go.Proofs.YtcmfepaffhnemaaGreatDoor

set_option linter.unusedVariables false
namespace Go.Proofs.YtcmfepaffhnemaaGreatDoor
open Go.RowKit

attribute [local go_sem] Oper.semAt_some

set_option maxRecDepth 100000 in
set_option maxHeartbeats 2000000 in
theorem quot_any (w : World) (s : Bool) (x y : Sv) (a b : Nat) (hx : x.Num w (limbs a)) (hy : y.Num w (limbs b)) (ha : (limbs a).length ≤ 1000000) (hb0 : 0 < b) (hb : b < B32) :
    Calls Tryz.prog 152 #[.bool s, .slice x.A x.n x.c, .slice y.A y.n y.c] w fun e w' => ∃ r : Rv, e = .returned r.v ∧ r.Is w' (quot s a b) ∧ Gr w w' := by
  have b1 := Bk.made w 41 #[.bool false, .slice none 0 0, .slice none 0 0]
  have HG1 := Lib.hid ((Gr.refl w).alloc (.cells #[.bool false, .slice none 0 0, .slice none 0 0] 41))
  have HB := Lib.hid b1
  have H1 := Lib.hid (make_any _ x _ (hx.gr HG1.out) ha)
  rw [val_limbs] at H1
  have HY := Lib.hid (hy.gr HG1.out)
  have HA := Lib.hid ha
  have HBB := Lib.hid hb
  clear hx hy ha hb b1
  go_enter Tryz.func152, Tryz.ntmps152
  go_wp2_with fail
  refine H1.out.mono ?_
  rintro e w1 ⟨u, rfl, hu, G1⟩
  have HU := Lib.hid hu
  have HG2 := Lib.hid (HG1.out.trans G1)
  have HB2 := Lib.hid (G1.bk HB.out)
  have H2 := Lib.hid (make_any w1 y _ (HY.out.gr G1) (Nat.le_trans (limbs_len_le (k := 1) (by rw [Nat.pow_one]; exact HBB.out)) (by decide)))
  rw [val_limbs] at H2
  have hpz := Lib.hid (Nat.le_refl w.heap.size)
  clear hu G1 H1 HY HB
  generalize hpe : w.heap.size = p at *
  have HPE := Lib.hid hpe
  clear hpe
  obtain ⟨A, n, c⟩ := u
  have HN := Lib.hid HU.out.len
  simp only [Sv.v] at *
  by_cases h0 : a = 0
  · have hn0 : n = 0 := by rw [← HN.out, h0, limbs_zero]; rfl
    subst hn0
    have HQ : Hid (quot s a b = Q.zero) := by unfold quot; exact if_pos h0
    clear h0
    obtain ⟨B5, F5⟩ := HB2.out.put3 (.bool false) (.slice none 0 0) (.slice none 0 0)
    obtain ⟨c0, c1, c2⟩ := HB2.out.c3
    have fz := HB2.out.frozen
    have H5 := Lib.hid F5
    obtain ⟨d0, d1, d2⟩ := B5.c3
    clear F5 B5
    go_wp2
    generalize ((w1.setCell ⟨p, 0, none⟩ (.bool false)).setCell ⟨p, 1, none⟩ (.slice none 0 0)).setCell ⟨p, 2, none⟩ (.slice none 0 0) = W5 at *
    (try simp only [Exit.inBlock, Exit.then])
    refine bodyPost_ret (by simp [results, Tryz.results152, go_sem, d0, d1, d2]; try rfl) rfl ?_
    exact ⟨⟨false, Sv.none, Sv.none⟩, rfl, by rw [HQ.out]; exact ⟨rfl, by rw [limbs_zero]; exact Sv.Num.none _, by rw [limbs_zero]; exact Sv.Num.none _⟩, HG2.out.fr_at H5.out (Nat.le_of_eq HPE.out)⟩
  · have hn0 : n ≠ 0 := fun e => h0 (limbs_len0.1 (HN.out.trans e))
    have hnd : ((n : Int) == 0) = false := by simp; omega
    go_wp2_with fail
    refine H2.out.mono ?_
    rintro e w2 ⟨v, rfl, hv, G2⟩
    have HV := Lib.hid hv
    have HG3 := Lib.hid (HG2.out.trans G2)
    have HU3 := Lib.hid (HU.out.gr G2)
    have HB3 := Lib.hid (G2.bk HB2.out)
    have H3 := Lib.hid (unit_any w2 v b hv)
    clear hv G2 HG2 HU HB2 H2
    go_wp2_with fail
    refine H3.out.mono ?_
    rintro e w3 ⟨rfl, G3⟩
    have HG4 := Lib.hid (HG3.out.trans G3)
    have HU4 := Lib.hid (HU3.out.gr G3)
    have HV4 := Lib.hid (HV.out.gr G3)
    have HB4 := Lib.hid (G3.bk HB3.out)
    clear G3 HG3 HU3 HB3 H3 HV
    by_cases hb1 : b = 1
    · have hbd : decide (b = 1) = true := by simp [hb1]
      have HQ : Hid (quot s a b = ⟨s, a, 0⟩) := by
        unfold quot
        rw [if_neg h0, hb1, Nat.gcd_one_right, Nat.div_one]
        exact rfl
      obtain ⟨B5, F5⟩ := HB4.out.put3 (.bool s) (.slice A n c) (.slice none 0 0)
      obtain ⟨c0, c1, c2⟩ := HB4.out.c3
      have fz := HB4.out.frozen
      have H5 := Lib.hid F5
      obtain ⟨d0, d1, d2⟩ := B5.c3
      clear F5 B5
      go_wp2
      generalize ((w3.setCell ⟨p, 0, none⟩ (.bool s)).setCell ⟨p, 1, none⟩ (.slice A n c)).setCell ⟨p, 2, none⟩ (.slice none 0 0) = W5 at *
      (try simp only [Exit.inBlock, Exit.then])
      refine bodyPost_ret (by simp [results, Tryz.results152, go_sem, d0, d1, d2]; try rfl) rfl ?_
      exact ⟨⟨s, ⟨A, n, c⟩, Sv.none⟩, rfl, by rw [HQ.out]; exact ⟨rfl, (HU4.out.fr H5.out HB4.out (noLimb_rat _ _ _ _ _ _ _)), by rw [limbs_zero]; exact Sv.Num.none _⟩, HG4.out.fr_at H5.out (Nat.le_of_eq HPE.out)⟩
    · have hbd : decide (b = 1) = false := by simp [hb1]
      have H5 := Lib.hid (gcd_any w3 ⟨A, n, c⟩ v a b HU4.out HV4.out HA.out hb0 HBB.out)
      have hg0 : 0 < Nat.gcd a b := Nat.gcd_pos_of_pos_right a hb0
      have hgb : Nat.gcd a b < B32 := Nat.lt_of_le_of_lt (Nat.le_of_dvd hb0 (Nat.gcd_dvd_right a b)) HBB.out
      have HQ0 : Hid (quot s a b = ⟨s, a / Nat.gcd a b, den0 (b / Nat.gcd a b)⟩) := by unfold quot; exact if_neg h0
      go_wp2_with fail
      refine H5.out.mono ?_
      rintro e w4 ⟨z, rfl, hz, G4⟩
      have HZ := Lib.hid hz
      have HG5 := Lib.hid (HG4.out.trans G4)
      have HU5 := Lib.hid (HU4.out.gr G4)
      have HV5 := Lib.hid (HV4.out.gr G4)
      have HB5 := Lib.hid (G4.bk HB4.out)
      have H6 := Lib.hid (unit_any w4 z _ hz)
      clear hz G4 HG4 HU4 HV4 HB4 H5
      generalize Nat.gcd a b = g at *
      go_wp2_with fail
      refine H6.out.mono ?_
      rintro e w5 ⟨rfl, G5⟩
      have HG6 := Lib.hid (HG5.out.trans G5)
      have HU6 := Lib.hid (HU5.out.gr G5)
      have HV6 := Lib.hid (HV5.out.gr G5)
      have HZ6 := Lib.hid (HZ.out.gr G5)
      have HB6 := Lib.hid (G5.bk HB5.out)
      clear G5 HG5 HU5 HV5 HB5 H6 HZ
      by_cases hg1 : g = 1
      · have hgd : decide (g = 1) = true := by simp [hg1]
        have HQ : Hid (quot s a b = ⟨s, a, b⟩) := by
          rw [HQ0.out, hg1, Nat.div_one, Nat.div_one]
          exact congrArg (Q.mk s a) (if_neg hb1)
        have H7 := Lib.hid (unit_any w5 v b HV6.out)
        go_wp2_with fail
        refine H7.out.mono ?_
        rintro e w6 ⟨rfl, G6⟩
        have HG7 := Lib.hid (HG6.out.trans G6)
        have HU7 := Lib.hid (HU6.out.gr G6)
        have HV7 := Lib.hid (HV6.out.gr G6)
        have HB7 := Lib.hid (G6.bk HB6.out)
        clear G6 H7
        obtain ⟨B5, F5⟩ := HB7.out.put3 (.bool s) (.slice A n c) (.slice v.A v.n v.c)
        obtain ⟨c0, c1, c2⟩ := HB7.out.c3
        have fz := HB7.out.frozen
        have H5 := Lib.hid F5
        obtain ⟨d0, d1, d2⟩ := B5.c3
        clear F5 B5
        go_wp2
        generalize ((w6.setCell ⟨p, 0, none⟩ (.bool s)).setCell ⟨p, 1, none⟩ (.slice A n c)).setCell ⟨p, 2, none⟩ (.slice v.A v.n v.c) = W5 at *
        (try simp only [Exit.inBlock, Exit.then])
        refine bodyPost_ret (by simp [results, Tryz.results152, go_sem, d0, d1, d2]; try rfl) rfl ?_
        exact ⟨⟨s, ⟨A, n, c⟩, v⟩, rfl, by rw [HQ.out]; exact ⟨rfl, (HU7.out.fr H5.out HB7.out (noLimb_rat _ _ _ _ _ _ _)), (HV7.out.fr H5.out HB7.out (noLimb_rat _ _ _ _ _ _ _))⟩, HG7.out.fr_at H5.out (Nat.le_of_eq HPE.out)⟩
      · have hgd : decide (g = 1) = false := by simp [hg1]
        have H7 := Lib.hid (div_any w5 ⟨A, n, c⟩ z a g HU6.out HZ6.out HA.out hg0 hgb)
        go_wp2_with fail
        refine H7.out.mono ?_
        rintro e w6 ⟨q1, r1, rfl, hq1, hr1, G6⟩
        have HN1 := Lib.hid hq1
        have HG7 := Lib.hid (HG6.out.trans G6)
        have HB7 := Lib.hid (G6.bk HB6.out)
        have H8 := Lib.hid (div_any w6 v z b g (HV6.out.gr G6) (HZ6.out.gr G6) (Nat.le_trans (limbs_len_le (k := 1) (by rw [Nat.pow_one]; exact HBB.out)) (by decide)) hg0 hgb)
        clear hq1 hr1 G6 H7 HG6 HB6
        go_wp2_with fail
        refine H8.out.mono ?_
        rintro e w7 ⟨q2, r2, rfl, hq2, hr2, G7⟩
        have HN2 := Lib.hid hq2
        have HN3 := Lib.hid (HN1.out.gr G7)
        have HG8 := Lib.hid (HG7.out.trans G7)
        have HB8 := Lib.hid (G7.bk HB7.out)
        have H9 := Lib.hid (unit_any w7 q2 _ hq2)
        clear hq2 hr2 G7 H8 HG7 HB7 HN1
        go_wp2_with fail
        refine H9.out.mono ?_
        rintro e w8 ⟨rfl, G8⟩
        have HN4 := Lib.hid (HN2.out.gr G8)
        have HN5 := Lib.hid (HN3.out.gr G8)
        have HG9 := Lib.hid (HG8.out.trans G8)
        have HB9 := Lib.hid (G8.bk HB8.out)
        clear G8 H9 HG8 HB8 HN2 HN3
        by_cases hd1 : b / g = 1
        · have hdd : decide (b / g = 1) = true := by simp [hd1]
          have HQ : Hid (quot s a b = ⟨s, a / g, 0⟩) := by rw [HQ0.out, hd1]; exact rfl
          obtain ⟨B5, F5⟩ := HB9.out.put3 (.bool s) (.slice q1.A q1.n q1.c) (.slice none 0 0)
          obtain ⟨c0, c1, c2⟩ := HB9.out.c3
          have fz := HB9.out.frozen
          have H5 := Lib.hid F5
          obtain ⟨d0, d1, d2⟩ := B5.c3
          clear F5 B5
          go_wp2
          generalize ((w8.setCell ⟨p, 0, none⟩ (.bool s)).setCell ⟨p, 1, none⟩ (.slice q1.A q1.n q1.c)).setCell ⟨p, 2, none⟩ (.slice none 0 0) = W5 at *
          (try simp only [Exit.inBlock, Exit.then])
          refine bodyPost_ret (by simp [results, Tryz.results152, go_sem, d0, d1, d2]; try rfl) rfl ?_
          exact ⟨⟨s, q1, Sv.none⟩, rfl, by rw [HQ.out]; exact ⟨rfl, (HN5.out.fr H5.out HB9.out (noLimb_rat _ _ _ _ _ _ _)), by rw [limbs_zero]; exact Sv.Num.none _⟩, HG9.out.fr_at H5.out (Nat.le_of_eq HPE.out)⟩
        · have hdd : decide (b / g = 1) = false := by simp [hd1]
          have HQ : Hid (quot s a b = ⟨s, a / g, b / g⟩) := by
            rw [HQ0.out]
            exact congrArg (Q.mk s (a / g)) (if_neg hd1)
          obtain ⟨B5, F5⟩ := HB9.out.put3 (.bool s) (.slice q1.A q1.n q1.c) (.slice q2.A q2.n q2.c)
          obtain ⟨c0, c1, c2⟩ := HB9.out.c3
          have fz := HB9.out.frozen
          have H5 := Lib.hid F5
          obtain ⟨d0, d1, d2⟩ := B5.c3
          clear F5 B5
          go_wp2
          generalize ((w8.setCell ⟨p, 0, none⟩ (.bool s)).setCell ⟨p, 1, none⟩ (.slice q1.A q1.n q1.c)).setCell ⟨p, 2, none⟩ (.slice q2.A q2.n q2.c) = W5 at *
          (try simp only [Exit.inBlock, Exit.then])
          refine bodyPost_ret (by simp [results, Tryz.results152, go_sem, d0, d1, d2]; try rfl) rfl ?_
          exact ⟨⟨s, q1, q2⟩, rfl, by rw [HQ.out]; exact ⟨rfl, (HN5.out.fr H5.out HB9.out (noLimb_rat _ _ _ _ _ _ _)), (HN4.out.fr H5.out HB9.out (noLimb_rat _ _ _ _ _ _ _))⟩, HG9.out.fr_at H5.out (Nat.le_of_eq HPE.out)⟩
end Go.Proofs.YtcmfepaffhnemaaGreatDoor

set_option linter.unusedVariables false
namespace Go.Proofs.YtcmfepaffhnemaaGreatDoor
open Go.RowKit

attribute [local go_sem] Oper.semAt_some

set_option maxRecDepth 100000 in
set_option maxHeartbeats 1000000 in
theorem imake_any (w : World) (s : Bool) (x : Sv) (a : Nat) (hx : x.Num w (limbs a)) (ha : (limbs a).length ≤ 1000000) :
    Calls Tryz.prog 151 #[.bool s, .slice x.A x.n x.c] w fun e w' => ∃ r : Iv, e = .returned r.v ∧ r.Is w' (s && decide (0 < a)) a ∧ Gr w w' := by
  have b1 := Bk.made w 110 #[.bool false, .slice none 0 0]
  have HG1 := Lib.hid ((Gr.refl w).alloc (.cells #[.bool false, .slice none 0 0] 110))
  have HB := Lib.hid b1
  have H1 := Lib.hid (make_any _ x _ (hx.gr HG1.out) ha)
  rw [val_limbs] at H1
  clear hx ha b1
  go_enter Tryz.func151, Tryz.ntmps151
  go_wp2_with fail
  refine H1.out.mono ?_
  rintro e w1 ⟨u, rfl, hu, G1⟩
  have HU := Lib.hid hu
  have HG2 := Lib.hid (HG1.out.trans G1)
  have HB2 := Lib.hid (G1.bk HB.out)
  clear hu G1 H1 HB
  generalize hpe : w.heap.size = p at *
  have HPE := Lib.hid hpe
  clear hpe
  obtain ⟨A, n, c⟩ := u
  have HN := Lib.hid HU.out.len
  simp only [Sv.v] at *
  obtain ⟨q, hq⟩ : ∃ q, q = (s && decide (0 < a)) := ⟨_, rfl⟩
  have HQ := Lib.hid hq
  have hqn : q = (s && decide ((0 : Int) < n)) := by
    rw [hq]
    congr 1
    by_cases h : a = 0
    · have : n = 0 := by rw [← HN.out, h, limbs_zero]; rfl
      simp [h, this]
    · have : n ≠ 0 := fun e => h (limbs_len0.1 (HN.out.trans e))
      rw [decide_eq_true (by omega), decide_eq_true (by omega)]
  obtain ⟨B5, F5⟩ := HB2.out.put2 (.bool q) (.slice A n c)
  obtain ⟨c0, c1⟩ := HB2.out.c2
  have fz := HB2.out.frozen
  have H5 := Lib.hid F5
  obtain ⟨d0, d1⟩ := B5.c2
  clear F5 B5 hq
  cases s
  · obtain rfl : q = false := by rw [hqn]; rfl
    clear hqn
    go_wp2
    generalize (w1.setCell ⟨p, 0, none⟩ (.bool false)).setCell ⟨p, 1, none⟩ (.slice A n c) = W5 at *
    (try simp only [Exit.inBlock, Exit.then])
    refine bodyPost_ret (by simp [results, Tryz.results151, go_sem, d0, d1]; try rfl) rfl ?_
    exact ⟨⟨false, ⟨A, n, c⟩⟩, rfl, ⟨HQ.out, HU.out.fr H5.out HB2.out (noLimb_int _ _ _ _)⟩, HG2.out.fr_at H5.out (Nat.le_of_eq HPE.out)⟩
  · by_cases hn : n = 0
    · subst hn
      have hd : decide ((0 : Int) < (0 : Nat)) = false := rfl
      obtain rfl : q = false := by rw [hqn, hd]; rfl
      clear hqn
      go_wp2
      generalize (w1.setCell ⟨p, 0, none⟩ (.bool false)).setCell ⟨p, 1, none⟩ (.slice A 0 c) = W5 at *
      (try simp only [Exit.inBlock, Exit.then])
      refine bodyPost_ret (by simp [results, Tryz.results151, go_sem, d0, d1]; try rfl) rfl ?_
      exact ⟨⟨false, ⟨A, 0, c⟩⟩, rfl, ⟨HQ.out, HU.out.fr H5.out HB2.out (noLimb_int _ _ _ _)⟩, HG2.out.fr_at H5.out (Nat.le_of_eq HPE.out)⟩
    · have hd : decide ((0 : Int) < n) = true := by simp; omega
      have hd2 : decide (0 < n) = true := by simp; omega
      obtain rfl : q = true := by rw [hqn, hd]; rfl
      clear hqn
      go_wp2
      generalize (w1.setCell ⟨p, 0, none⟩ (.bool true)).setCell ⟨p, 1, none⟩ (.slice A n c) = W5 at *
      (try simp only [Exit.inBlock, Exit.then])
      refine bodyPost_ret (by simp [results, Tryz.results151, go_sem, d0, d1]; try rfl) rfl ?_
      exact ⟨⟨true, ⟨A, n, c⟩⟩, rfl, ⟨HQ.out, HU.out.fr H5.out HB2.out (noLimb_int _ _ _ _)⟩, HG2.out.fr_at H5.out (Nat.le_of_eq HPE.out)⟩

def isg (s : Bool) (m : Nat) : Int := if m = 0 then 0 else if s then -1 else 1
set_option maxRecDepth 100000 in
set_option maxHeartbeats 1000000 in
theorem isign_any (w : World) (x : Iv) (s : Bool) (m : Nat) (hx : x.Is w s m) (hm : (limbs m).length ≤ 1000000) :
    Calls Tryz.prog 107 #[x.v] w fun e w' => e = .returned (.int .i64 (isg s m)) ∧ Gr w w' := by
  obtain ⟨s', mag⟩ := x
  obtain rfl : s' = s := hx.neg
  have b1 := Bk.made w 110 #[.bool s', .slice mag.A mag.n mag.c]
  have HG1 := Lib.hid ((Gr.refl w).alloc (.cells #[.bool s', .slice mag.A mag.n mag.c] 110))
  have HB := Lib.hid b1
  have H1 := Lib.hid (bits_any _ mag _ (hx.mag.gr HG1.out) hm)
  rw [val_limbs] at H1
  have c1 := b1.cell 1
  clear hx hm b1
  simp only [Iv.v] at *
  go_enter Tryz.func107, Tryz.ntmps107
  go_wp2_with fail
  refine H1.out.mono ?_
  rintro e w1 ⟨⟨r, rfl, hr, hr0⟩, G1⟩
  have HG2 := Lib.hid (HG1.out.trans G1)
  have c0 := (G1.bk HB.out).cell 0
  clear G1 H1 HB c1
  by_cases h0 : m = 0
  · have HE : Hid (isg s' m = 0) := by unfold isg; exact if_pos h0
    rw [decide_eq_true h0] at hr0
    go_wp2
    go_ret
    exact ⟨by rw [HE.out]; rfl, HG2.out⟩
  · have HE : Hid (isg s' m = if s' then -1 else 1) := by unfold isg; exact if_neg h0
    rw [decide_eq_false h0] at hr0
    cases s'
    · go_wp2
      go_ret
      exact ⟨by rw [HE.out]; rfl, HG2.out⟩
    · go_wp2
      go_ret
      exact ⟨by rw [HE.out]; rfl, HG2.out⟩
end Go.Proofs.YtcmfepaffhnemaaGreatDoor

set_option linter.unusedVariables false
namespace Go.Proofs.YtcmfepaffhnemaaGreatDoor
open Go.RowKit

attribute [local go_sem] Oper.semAt_some

theorem mul_step {p q z cr s : Nat} (hp : p < B32) (hq : q < B32) (hz : z < B32) (hc : cr < B32) (hs : s = cr + (p * q + z)) :
    IntKind.u64.wrap ((cr : Int) + IntKind.u64.wrap (IntKind.u64.wrap (IntKind.u64.wrap (p : Int) * IntKind.u64.wrap (q : Int)) + IntKind.u64.wrap (z : Int))) = (s : Int) := by
  have hB := B32_eq
  rw [hB] at hp hq hz hc
  have h4 : p * q ≤ 4294967295 * 4294967295 := Nat.mul_le_mul (by omega) (by omega)
  have e1 : (p : Int) * (q : Int) = ((p * q : Nat) : Int) := by rw [Int.natCast_mul]
  rw [IntWalk.u64_in (p : Int) (by omega), IntWalk.u64_in (q : Int) (by omega), IntWalk.u64_in (z : Int) (by omega), e1, IntWalk.u64_in ((p * q : Nat) : Int) (by omega), IntWalk.u64_in (((p * q : Nat) : Int) + z) (by omega), IntWalk.u64_in _ (by omega)]
  omega

set_option maxRecDepth 100000 in
set_option maxHeartbeats 4000000 in
theorem mul_any (w : World) (x y : Sv) (a b : List Nat) (hx : x.Num w a) (hy : y.Num w b) (ha : a.length ≤ 1000000) (hb : b.length ≤ 1000000) :
    Calls Tryz.prog 205 #[.slice x.A x.n x.c, .slice y.A y.n y.c] w fun e w' => ∃ z : Sv, e = .returned z.v ∧ z.Num w' (limbs (val a * val b)) ∧ Gr w w' := by
  have H1 := Lib.hid (trim_any w x a hx)
  have HY := Lib.hid hy
  have HA : Hid ((limbs (val a)).length ≤ 1000000) := Nat.le_trans (limbs_len_le (val_lt hx.lim)) ha
  have HB : Hid ((limbs (val b)).length ≤ 1000000) := Nat.le_trans (limbs_len_le (val_lt hy.lim)) hb
  clear hx hy ha hb
  go_enter Tryz.func205, Tryz.ntmps205
  go_wp2_with fail
  refine H1.out.mono ?_
  rintro e w1 ⟨u, rfl, hu, G1⟩
  have HU := Lib.hid hu
  have HG1 := Lib.hid G1
  have H2 := Lib.hid (trim_any w1 y b (HY.out.gr G1))
  clear hu G1 H1 HY
  go_wp2_with fail
  refine H2.out.mono ?_
  rintro e w2 ⟨v, rfl, hv, G2⟩
  have HG2 := Lib.hid (HG1.out.trans G2)
  have HU2 := Lib.hid (HU.out.gr G2)
  have HV := Lib.hid hv
  clear hv G2 HG1 HU H2
  obtain ⟨A, n, c⟩ := u
  obtain ⟨B, m, d⟩ := v
  have HN := Lib.hid HU2.out.len
  have HM := Lib.hid HV.out.len
  have VA := Lib.hid (val_limbs (val a))
  have VB := Lib.hid (val_limbs (val b))
  have ZA : Hid (n = 0 → val a = 0) := fun h => limbs_len0.1 (HN.out.trans h)
  have ZB : Hid (m = 0 → val b = 0) := fun h => limbs_len0.1 (HM.out.trans h)
  simp only [Sv.v] at *
  have hn9 : n ≤ 1000000 := by rw [← HN.out]; exact HA.out
  have hm9 : m ≤ 1000000 := by rw [← HM.out]; exact HB.out
  by_cases hz : n = 0 ∨ m = 0
  · have HZ : Hid (limbs (val a * val b) = []) := by
      rcases hz with h | h
      · rw [ZA.out h, Nat.zero_mul]; exact limbs_zero
      · rw [ZB.out h, Nat.mul_zero]; exact limbs_zero
    by_cases h : n = 0
    · have h1 : ((n : Int) == 0) = true := by simp [h]
      clear hz
      go_wp2
      go_ret
      exact ⟨Sv.none, rfl, by rw [HZ.out]; exact Sv.Num.none _, HG2.out⟩
    · have h1 : ((n : Int) == 0) = false := by simp [h]
      have h2 : ((m : Int) == 0) = true := by rcases hz with h9 | h9; exact absurd h9 h; simp [h9]
      clear hz
      go_wp2
      go_ret
      exact ⟨Sv.none, rfl, by rw [HZ.out]; exact Sv.Num.none _, HG2.out⟩
  have hn0 : ((n : Int) == 0) = false := by simp; omega
  have hm0 : ((m : Int) == 0) = false := by simp; omega
  clear hz
  generalize limbs (val a) = la at *
  generalize limbs (val b) = lb at *
  have hmk := makeN (n + m) (by omega) w2
  rw [show (((n + m : Nat)) : Int) = (n : Int) + m by omega] at hmk
  have HR0 := Lib.hid (Lb.made w2 (n + m))
  have HG4 : Hid (Gr w (w2.alloc (.cells (Array.replicate (n + m) (.int .u32 0)) 211))) := HG2.out.alloc _
  have HGs : Hid (Gr w2 (w2.alloc (.cells (Array.replicate (n + m) (.int .u32 0)) 211))) := (Gr.refl w2).alloc _
  have HS0 := Lib.hid (MulSt.start la lb)
  rw [HN.out, HM.out] at HS0
  have hg0 : Hid (w.heap.size ≤ w2.heap.size) := HG2.out.size
  go_wp2
  clear hmk
  generalize hge : w2.heap.size = g at *
  have HGE := Lib.hid hge
  clear hge
  go_loopw [31] (fun i wr => ∃ (t : Nat) (o : List Nat), i = .int .i64 t ∧ t ≤ n ∧ Hid (MulSt la lb o t) ∧ Hid (Lb wr g o) ∧ Hid (Gr w wr) ∧ Hid (Gr w2 wr)) (fun i _ => n - (intOf i).toNat)
  case atStart => exact ⟨0, _, rfl, Nat.zero_le _, HS0, HR0, HG4, HGs⟩
  case round =>
    obtain ⟨t, o, rfl, ht, hS, hR, hG, hGG⟩ := hrel
    by_cases htn : t < n
    · obtain ⟨p, ad, hp, hp9, hAe, hbl, d1⟩ := (HU2.out.gr hGG.out).at (i := t) htn
      simp only at hAe
      subst hAe
      have HP := Lib.hid hp
      have HI0 := Lib.hid (hS.out.into p)
      have HP9 := Lib.hid hp9
      clear hp hp9 hbl hS
      go_wp2
      go_loopw [8, 38] (fun s8 i wx => ∃ (k cr : Nat) (o : List Nat), i = .int .i64 k ∧ s8 = .int .u64 cr ∧ k ≤ m ∧ Hid (MulIn la lb o t p k cr) ∧ Hid (Lb wx g o) ∧ Hid (Gr w wx) ∧ Hid (Gr w2 wx)) (fun _ i _ => m - (intOf i).toNat)
      case atStart => exact ⟨0, 0, _, rfl, rfl, Nat.zero_le _, HI0, hR, hG, hGG⟩
      case round =>
        obtain ⟨k, cr, o2, rfl, rfl, hk, hS2, hR2, hG2, hGG2⟩ := hrel
        have fz := hR2.out.fz
        have hcr : cr < 4294967296 := hS2.out.car
        have hlen2 : o2.length = n + m := by rw [hS2.out.len, HN.out, HM.out]
        by_cases hkm : k < m
        · obtain ⟨q, ad2, hq, hq9, hBe, hbl2, d2⟩ := (HV.out.gr hGG2.out).at (i := k) hkm
          simp only at hBe
          subst hBe
          obtain ⟨z, hz⟩ : ∃ z, o2[t + k]? = some z := ⟨_, List.getElem?_eq_getElem (by omega)⟩
          have q0 := hR2.out.cell hz
          obtain ⟨s, hs⟩ : ∃ s, s = cr + (p * q + z) := ⟨_, rfl⟩
          have HST := Lib.hid (hS2.out.step (by rw [HN.out]; exact htn) HP9.out HV.out.lim hq hz hs)
          have HX := Lib.hid (mul_step HP9.out hq9 (hS2.out.lim.at hz) hcr hs)
          obtain ⟨lo, hlo⟩ : ∃ lo, lo = s % B32 := ⟨_, rfl⟩
          obtain ⟨hi, hhi⟩ : ∃ hi, hi = s / B32 := ⟨_, rfl⟩
          rw [← hlo, ← hhi] at HST
          have E1 : Hid ((s : Int) % 4294967296 = lo) := by rw [B32_eq] at hlo; exact (by omega : (s : Int) % 4294967296 = lo)
          have E2 : Hid ((s : Int) / 4294967296 = hi) := by rw [B32_eq] at hhi; exact (by omega : (s : Int) / 4294967296 = hi)
          have HL2 := Lib.hid (hR2.out.put (t + k) lo)
          have HG5 := Lib.hid (hG2.out.set (p := ⟨g, t + k, none⟩) hg0.out (lv lo))
          have HG6 := Lib.hid (hGG2.out.set (p := ⟨g, t + k, none⟩) (by rw [HGE.out]; exact Nat.le_refl _) (lv lo))
          clear hq hq9 hbl2 hlo hhi hs hz
          go_wp2
          go_roundw
          case rel =>
            rw [HX.out, E1.out, E2.out]
            exact ⟨k + 1, hi, _, by go_num, rfl, by omega, HST, HL2, HG5, HG6⟩
          case measure => simp [intOf]; omega
        · obtain rfl : k = m := by omega
          obtain ⟨z, hz⟩ : ∃ z, o2[t + k]? = some z := ⟨_, List.getElem?_eq_getElem (by omega)⟩
          have q0 := hR2.out.cell hz
          have HS5 : Hid (MulSt la lb (o2.set (t + k) cr) (t + 1)) := by
            have h := hS2.out
            rw [← HM.out] at h ⊢
            exact h.done HP.out
          have HL2 := Lib.hid (hR2.out.put (t + k) cr)
          have HG5 := Lib.hid (hG2.out.set (p := ⟨g, t + k, none⟩) hg0.out (lv cr))
          have HG6 := Lib.hid (hGG2.out.set (p := ⟨g, t + k, none⟩) (by rw [HGE.out]; exact Nat.le_refl _) (lv cr))
          have HCR : Hid ((cr : Int) % 4294967296 = cr) := (by omega : (cr : Int) % 4294967296 = cr)
          clear hz
          go_wp2
          go_roundw
          case rel =>
            try rw [HCR.out]
            exact ⟨t + 1, _, by go_num, by omega, HS5, HL2, HG5, HG6⟩
          case measure => simp [intOf]; omega
    · obtain rfl : t = n := by omega
      have e1 : val o = val la * val lb := by
        have h := hS.out
        rw [← HN.out] at h
        exact h.done
      have hlen : o.length = t + m := by rw [hS.out.len, HN.out, HM.out]
      have HT := Lib.hid (trim_any wr ⟨some ⟨g, 0, none⟩, t + m, t + m⟩ o (by have := hR.out.num hS.out.lim (by omega); rw [hlen] at this; exact this))
      rw [e1, VA.out, VB.out] at HT
      clear e1 hlen
      go_wp2_with fail
      refine HT.out.mono ?_
      rintro e w5 ⟨z, rfl, hz, G5⟩
      have HZ := Lib.hid hz
      have HG6 := Lib.hid (hG.out.trans G5)
      clear hz G5 HT
      go_wp2
      go_ret
      exact ⟨z, rfl, HZ.out, HG6.out⟩
end Go.Proofs.YtcmfepaffhnemaaGreatDoor

set_option linter.unusedVariables false
namespace Go.Proofs.YtcmfepaffhnemaaGreatDoor
open Go.RowKit

attribute [local go_sem] Oper.semAt_some

set_option maxRecDepth 100000 in
set_option maxHeartbeats 2000000 in
theorem sub_any (w : World) (x y : Sv) (a b : List Nat) (hx : x.Num w a) (hy : y.Num w b) (ha : a.length ≤ 1000000) (hb : b.length ≤ 1000000) (hle : val b ≤ val a) :
    Calls Tryz.prog 273 #[.slice x.A x.n x.c, .slice y.A y.n y.c] w fun e w' => ∃ z : Sv, e = .returned (.tuple #[z.v, .int .i64 0]) ∧ z.Num w' (limbs (val a - val b)) ∧ Gr w w' := by
  have H1 := Lib.hid (trim_any w x a hx)
  have HY := Lib.hid hy
  have HA : Hid ((limbs (val a)).length ≤ 1000000) := Nat.le_trans (limbs_len_le (val_lt hx.lim)) ha
  have HB : Hid ((limbs (val b)).length ≤ 1000000) := Nat.le_trans (limbs_len_le (val_lt hy.lim)) hb
  have HLE := Lib.hid hle
  clear hx hy ha hb hle
  go_enter Tryz.func273, Tryz.ntmps273
  go_wp2_with fail
  refine H1.out.mono ?_
  rintro e w1 ⟨u, rfl, hu, G1⟩
  have HU := Lib.hid hu
  have HG1 := Lib.hid G1
  have H2 := Lib.hid (trim_any w1 y b (HY.out.gr G1))
  clear hu G1 H1 HY
  go_wp2_with fail
  refine H2.out.mono ?_
  rintro e w0 ⟨v, rfl, hv, G2⟩
  have HG2 := Lib.hid (HG1.out.trans G2)
  have HU2 := Lib.hid (HU.out.gr G2)
  have HV := Lib.hid hv
  have H3 := Lib.hid (cmp_any w0 u v _ _ (HU.out.gr G2) hv)
  clear hv G2 HG1 HU H2
  rw [val_limbs, val_limbs] at H3
  have hc0 : 0 ≤ cmpN (val a) (val b) := by
    have := HLE.out
    unfold cmpN
    split
    · omega
    · split <;> omega
  go_wp2_with fail
  refine H3.out.mono ?_
  rintro e w2 ⟨rfl, G3⟩
  have HG3 := Lib.hid (HG2.out.trans G3)
  have HU3 := Lib.hid (HU2.out.gr G3)
  have HV3 := Lib.hid (HV.out.gr G3)
  clear G3 HG2 HU2 HV H3
  generalize cmpN (val a) (val b) = cm at *
  have hcd : decide (cm < 0) = false := by simp; omega
  obtain ⟨A, n, c⟩ := u
  obtain ⟨B, m, d⟩ := v
  have HN := Lib.hid HU3.out.len
  have HM := Lib.hid HV3.out.len
  have VA := Lib.hid (val_limbs (val a))
  have VB := Lib.hid (val_limbs (val b))
  have hmn : m ≤ n := by
    have := limbs_len_mono HLE.out
    rw [HN.out, HM.out] at this
    exact this
  simp only [Sv.v] at *
  have hn9 : n ≤ 1000000 := by rw [← HN.out]; exact HA.out
  generalize limbs (val a) = la at *
  generalize limbs (val b) = lb at *
  have hmk := makeN n (by omega) w2
  have HR0 := Lib.hid (Lb.made w2 n)
  have HG4 : Hid (Gr w (w2.alloc (.cells (Array.replicate n (.int .u32 0)) 211))) := HG3.out.alloc _
  have HGs : Hid (Gr w2 (w2.alloc (.cells (Array.replicate n (.int .u32 0)) 211))) := (Gr.refl w2).alloc _
  have HS0 := Lib.hid (SubSt.start la lb n)
  have hg0 : Hid (w.heap.size ≤ w2.heap.size) := HG3.out.size
  go_wp2
  clear hmk
  generalize hge : w2.heap.size = g at *
  have HGE := Lib.hid hge
  clear hge
  go_loopw [7, 10, 24] (fun s7 s10 i wr => ∃ (t cr : Nat) (o : List Nat), i = .int .i64 t ∧ s7 = .int .u64 cr ∧ t ≤ n ∧ cr ≤ 1 ∧ Hid (SubSt la lb o t cr n) ∧ Hid (Lb wr g o) ∧ Hid (Gr w wr) ∧ Hid (Gr w2 wr)) (fun _ _ i _ => n - (intOf i).toNat)
  case atStart => exact ⟨0, 0, _, rfl, rfl, Nat.zero_le _, by omega, HS0, HR0, HG4, HGs⟩
  case round =>
    obtain ⟨t, cr, o, rfl, rfl, ht, hcr, hS, hR, hG, hGG⟩ := hrel
    have fz := hR.out.fz
    by_cases htn : t < n
    · obtain ⟨p, ad, hp, hp9, hAe, hbl, d1⟩ := (HU3.out.gr hGG.out).at (i := t) htn
      simp only at hAe
      subst hAe
      have HP := Lib.hid (lim0_at hp)
      have q0 := hR.out.cell (hS.out.zer t (Nat.le_refl _) (by omega))
      have hB := B32_eq
      rw [hB] at hp9
      by_cases htm : t < m
      · obtain ⟨q, ad2, hq, hq9, hBe, hbl2, d2⟩ := (HV3.out.gr hGG.out).at (i := t) htm
        simp only at hBe
        subst hBe
        rw [hB] at hq9
        obtain ⟨lo, c', hlo, hc', hlc⟩ : ∃ lo c' : Nat, lo < 4294967296 ∧ c' ≤ 1 ∧ lo + cr + q = p + 4294967296 * c' := by
          by_cases h : cr + q ≤ p
          · exact ⟨p - cr - q, 0, by omega, by omega, by omega⟩
          · exact ⟨p + 4294967296 - cr - q, 1, by omega, by omega, by omega⟩
        have HST := Lib.hid (hS.out.step HU3.out.lim HV3.out.lim htn (x := lo) (c' := c') (by rw [hB]; exact hlo) hc' (by rw [HP.out, lim0_at hq]; exact hlc))
        have E1 : Hid (IntKind.u64.wrap (IntKind.u64.wrap ((p : Int) - cr) - q) % 4294967296 = lo) := by
          have h : IntKind.u64.wrap (IntKind.u64.wrap ((p : Int) - cr) - q) % 4294967296 = lo := by rw [IntKind.wrap_u64, IntKind.wrap_u64]; omega
          exact h
        have E2 : Hid (IntKind.u64.wrap (IntKind.u64.wrap ((p : Int) - cr) - q) / 9223372036854775808 = c') := by
          have h : IntKind.u64.wrap (IntKind.u64.wrap ((p : Int) - cr) - q) / 9223372036854775808 = c' := by rw [IntKind.wrap_u64, IntKind.wrap_u64]; omega
          exact h
        have HL2 := Lib.hid (hR.out.put t lo)
        have HG5 := Lib.hid (hG.out.set (p := ⟨g, t, none⟩) hg0.out (lv lo))
        have HG6 := Lib.hid (hGG.out.set (p := ⟨g, t, none⟩) (by rw [HGE.out]; exact Nat.le_refl _) (lv lo))
        clear hp hq hbl hbl2 hlc hlo
        go_wp2
        go_roundw
        case rel =>
          rw [E1.out, E2.out]
          exact ⟨t + 1, c', _, by go_num, rfl, by omega, hc', HST, HL2, HG5, HG6⟩
        case measure => simp [intOf]; omega
      · obtain ⟨lo, c', hlo, hc', hlc⟩ : ∃ lo c' : Nat, lo < 4294967296 ∧ c' ≤ 1 ∧ lo + cr + 0 = p + 4294967296 * c' := by
          by_cases h : cr + 0 ≤ p
          · exact ⟨p - cr - 0, 0, by omega, by omega, by omega⟩
          · exact ⟨p + 4294967296 - cr - 0, 1, by omega, by omega, by omega⟩
        have HST := Lib.hid (hS.out.step HU3.out.lim HV3.out.lim htn (x := lo) (c' := c') (by rw [hB]; exact hlo) hc' (by rw [HP.out, lim0_past (by rw [HV3.out.len]; simp only; omega)]; exact hlc))
        have E1 : Hid (IntKind.u64.wrap ((p : Int) - cr) % 4294967296 = lo) := by
          have h : IntKind.u64.wrap ((p : Int) - cr) % 4294967296 = lo := by rw [IntKind.wrap_u64]; omega
          exact h
        have E2 : Hid (IntKind.u64.wrap ((p : Int) - cr) / 9223372036854775808 = c') := by
          have h : IntKind.u64.wrap ((p : Int) - cr) / 9223372036854775808 = c' := by rw [IntKind.wrap_u64]; omega
          exact h
        have HL2 := Lib.hid (hR.out.put t lo)
        have HG5 := Lib.hid (hG.out.set (p := ⟨g, t, none⟩) hg0.out (lv lo))
        have HG6 := Lib.hid (hGG.out.set (p := ⟨g, t, none⟩) (by rw [HGE.out]; exact Nat.le_refl _) (lv lo))
        clear hp hbl hlc hlo
        go_wp2
        go_roundw
        case rel =>
          rw [E1.out, E2.out]
          exact ⟨t + 1, c', _, by go_num, rfl, by omega, hc', HST, HL2, HG5, HG6⟩
        case measure => simp [intOf]; omega
    · obtain rfl : t = n := by omega
      have e1 := hS.out.done (by rw [HU3.out.len]; exact Nat.le_refl _) (by rw [HV3.out.len]; exact hmn) (Nat.le_refl _) (by rw [VA.out, VB.out]; exact HLE.out)
      have hlen := hS.out.len
      have HT := Lib.hid (trim_any wr ⟨some ⟨g, 0, none⟩, t, t⟩ o (by have := hR.out.num hS.out.lim (by omega); rw [hlen] at this; exact this))
      rw [e1, VA.out, VB.out] at HT
      clear e1 hlen
      go_wp2_with fail
      refine HT.out.mono ?_
      rintro e w5 ⟨z, rfl, hz, G5⟩
      have HZ := Lib.hid hz
      have HG6 := Lib.hid (hG.out.trans G5)
      clear hz G5 HT
      go_wp2
      go_returns
      exact ⟨z, rfl, HZ.out, HG6.out⟩
end Go.Proofs.YtcmfepaffhnemaaGreatDoor

set_option linter.unusedVariables false
namespace Go.Proofs.YtcmfepaffhnemaaGreatDoor
open Go.RowKit

attribute [local go_sem] Oper.semAt_some

/-- Two struct variables and a result. -/
theorem made3 (w : World) (t u v : TypeId) (a b c : Array Value) :
    Bk (((w.alloc (.cells a t)).alloc (.cells b u)).alloc (.cells c v)) w.heap.size t a ∧ Bk (((w.alloc (.cells a t)).alloc (.cells b u)).alloc (.cells c v)) (w.heap.size + 1) u b ∧ Bk (((w.alloc (.cells a t)).alloc (.cells b u)).alloc (.cells c v)) (w.heap.size + 1 + 1) v c ∧ Gr w (((w.alloc (.cells a t)).alloc (.cells b u)).alloc (.cells c v)) := by
  have s1 : (w.alloc (.cells a t)).heap.size = w.heap.size + 1 := World.size_alloc ..
  have s2 : ((w.alloc (.cells a t)).alloc (.cells b u)).heap.size = w.heap.size + 1 + 1 := by rw [World.size_alloc, s1]
  refine ⟨((Bk.made w t a).alloc _).alloc _, ?_, ?_, (((Gr.refl w).alloc _).alloc _).alloc _⟩
  · have := (Bk.made (w.alloc (.cells a t)) u b).alloc (.cells c v)
    rwa [s1] at this
  · have := Bk.made ((w.alloc (.cells a t)).alloc (.cells b u)) v c
    rwa [s2] at this
theorem limbs_mul_len (m n : Nat) : (limbs (m * n)).length ≤ (limbs m).length + (limbs n).length := by
  refine limbs_len_le ?_
  rw [Nat.pow_add]
  exact Nat.lt_of_le_of_lt (Nat.mul_le_mul_right _ (Nat.le_of_lt (limbs_high m))) (Nat.mul_lt_mul_of_pos_left (limbs_high n) (Nat.pow_pos (by decide)))
theorem limbs_add_len (m n k : Nat) (hm : (limbs m).length ≤ k) (hn : (limbs n).length ≤ k) : (limbs (m + n)).length ≤ k + 1 := by
  refine limbs_len_le ?_
  have h1 := Nat.lt_of_lt_of_le (limbs_high m) (Nat.pow_le_pow_right (by decide : 0 < B32) hm)
  have h2 := Nat.lt_of_lt_of_le (limbs_high n) (Nat.pow_le_pow_right (by decide : 0 < B32) hn)
  rw [Nat.pow_succ, B32_eq] at *
  omega

set_option maxRecDepth 100000 in
set_option maxHeartbeats 4000000 in
theorem imul_any (w : World) (a b : Iv) (s t : Bool) (m n : Nat) (ha : a.Is w s m) (hb : b.Is w t n) (hm : (limbs m).length ≤ 400000) (hn : (limbs n).length ≤ 400000) :
    Calls Tryz.prog 159 #[a.v, b.v] w fun e w' => ∃ r : Iv, e = .returned r.v ∧ r.Is w' ((s != t) && decide (0 < m * n)) (m * n) ∧ Gr w w' := by
  obtain ⟨B1, B2, B3, G⟩ := made3 w 110 110 110 #[.bool a.neg, .slice a.mag.A a.mag.n a.mag.c] #[.bool b.neg, .slice b.mag.A b.mag.n b.mag.c] #[.bool false, .slice none 0 0]
  have hs := Lib.hid ha.neg
  have ht := Lib.hid hb.neg
  have HA := Lib.hid (ha.mag.gr G)
  have HB := Lib.hid (hb.mag.gr G)
  have HG := Lib.hid G
  have HLM := Lib.hid hm
  have HLN := Lib.hid hn
  have hB1 := Lib.hid B1
  have hB2 := Lib.hid B2
  have hB3 := Lib.hid B3
  clear ha hb hm hn G B1 B2 B3
  simp only [Iv.v]
  go_enter Tryz.func159, Tryz.ntmps159
  go_wp2_with fail
  generalize hW : ((w.alloc (.cells #[.bool a.neg, .slice a.mag.A a.mag.n a.mag.c] 110)).alloc (.cells #[.bool b.neg, .slice b.mag.A b.mag.n b.mag.c] 110)).alloc (.cells #[.bool false, .slice none 0 0] 110) = W at *
  clear hW
  have hpr : ¬ w.heap.size = w.heap.size + 1 + 1 := by omega
  have hqr : ¬ w.heap.size + 1 = w.heap.size + 1 + 1 := by omega
  have hle : Hid (w.heap.size ≤ w.heap.size + 1 + 1) := Nat.le_trans (Nat.le_succ _) (Nat.le_succ _)
  generalize w.heap.size + 1 + 1 = r at *
  generalize w.heap.size + 1 = q at *
  generalize hp : w.heap.size = p at *
  have hPE := Lib.hid hp
  clear hp
  have hpr2 : ¬ r = p := fun e => hpr e.symm
  have hqr2 : ¬ r = q := fun e => hqr e.symm
  obtain ⟨a0, a1⟩ := hB1.out.c2
  obtain ⟨b0, b1⟩ := hB2.out.c2
  have HM := Lib.hid (mul_any W.drew a.mag b.mag _ _ (HA.out.gr (Gr.refl W).drew) (HB.out.gr (Gr.refl W).drew) (Nat.le_trans HLM.out (by decide)) (Nat.le_trans HLN.out (by decide)))
  rw [val_limbs, val_limbs] at HM
  have HLP : Hid ((limbs (m * n)).length ≤ 1000000) := Nat.le_trans (limbs_mul_len m n) (Nat.le_trans (Nat.add_le_add HLM.out HLN.out) (by decide))
  first | (go_region_held3 (fun W => W.cell? ⟨p, 0, none⟩ = some (.bool a.neg) ∧ W.cell? ⟨p, 1, none⟩ = some (.slice a.mag.A a.mag.n a.mag.c) ∧ W.cell? ⟨q, 0, none⟩ = some (.bool b.neg) ∧ W.cell? ⟨q, 1, none⟩ = some (.slice b.mag.A b.mag.n b.mag.c)) (first | go_keep | exact ⟨hk1.1, hk1.2, hk2.1, hk2.2⟩ | exact ⟨hj1.1, hj1.2, hj2.1, hj2.2⟩)
    (first | (go_at_call 205; refine HM.out.mono ?_; rintro e w1 ⟨z, rfl, hz, G1⟩; have hk1 := (G1.bk hB1.out).c2; have hk2 := (G1.bk hB2.out).c2; have HI := Lib.hid (imake_any w1 (a.neg != b.neg) z _ hz HLP.out); have HBr := Lib.hid (G1.bk hB3.out); have HG1 := Lib.hid (HG.out.drew.trans G1); have hB1' := Lib.hid (G1.bk hB1.out); have hB2' := Lib.hid (G1.bk hB2.out); clear hz G1)
           | (go_at_call 151; refine HI.out.mono ?_; rintro e w2 ⟨i, rfl, hi, G2⟩; have hj1 := (G2.bk hB1'.out).c2; have hj2 := (G2.bk hB2'.out).c2; have HBs := Lib.hid (G2.bk HBr.out); obtain ⟨r0, r1⟩ := HBs.out.c2; have fz := HBs.out.frozen; have HG2 := Lib.hid (HG1.out.trans G2); have HII := Lib.hid hi; clear hi G2))) | fail
  obtain ⟨B5, F5⟩ := HBs.out.put2 (.bool i.neg) (.slice i.mag.A i.mag.n i.mag.c)
  have H5 := Lib.hid F5
  obtain ⟨d0, d1⟩ := B5.c2
  clear F5 B5
  go_wp2
  generalize (w2.setCell ⟨r, 0, none⟩ (.bool i.neg)).setCell ⟨r, 1, none⟩ (.slice i.mag.A i.mag.n i.mag.c) = W5 at *
  (try simp only [Exit.inBlock, Exit.then])
  refine bodyPost_ret (by simp [results, Tryz.results159, go_sem, d0, d1]; try rfl) rfl ?_
  exact ⟨i, rfl, ⟨by rw [HII.out.neg, hs.out, ht.out], HII.out.mag.fr H5.out HBs.out (noLimb_int _ _ _ _)⟩, HG2.out.fr_at H5.out (by rw [hPE.out]; exact hle.out)⟩
end Go.Proofs.YtcmfepaffhnemaaGreatDoor

set_option linter.unusedVariables false
namespace Go.Proofs.YtcmfepaffhnemaaGreatDoor
open Go.RowKit

attribute [local go_sem] Oper.semAt_some

set_option maxRecDepth 100000 in
set_option maxHeartbeats 4000000 in
theorem iadd_any (w : World) (a b : Iv) (s t : Bool) (m n : Nat) (ha : a.Is w s m) (hb : b.Is w t n) (hm : (limbs m).length ≤ 900000) (hn : (limbs n).length ≤ 900000) :
    Calls Tryz.prog 217 #[a.v, b.v] w fun e w' => ∃ r : Iv, e = .returned r.v ∧ r.Is w' (sadd s m t n).1 (sadd s m t n).2 ∧ Gr w w' := by
  obtain ⟨B1, B2, B3, G⟩ := made3 w 110 110 110 #[.bool a.neg, .slice a.mag.A a.mag.n a.mag.c] #[.bool b.neg, .slice b.mag.A b.mag.n b.mag.c] #[.bool false, .slice none 0 0]
  have hs := Lib.hid ha.neg
  have ht := Lib.hid hb.neg
  have HA := Lib.hid (ha.mag.gr G)
  have HB := Lib.hid (hb.mag.gr G)
  have HG := Lib.hid G
  have HLM := Lib.hid hm
  have HLN := Lib.hid hn
  have hB1 := Lib.hid B1
  have hB2 := Lib.hid B2
  have hB3 := Lib.hid B3
  obtain ⟨a0, a1⟩ := B1.c2
  obtain ⟨b0, b1⟩ := B2.c2
  clear ha hb hm hn G B1 B2 B3
  simp only [Iv.v]
  have HLA : Hid ((limbs m).length ≤ 1000000) := Nat.le_trans HLM.out (by decide)
  have HLB : Hid ((limbs n).length ≤ 1000000) := Nat.le_trans HLN.out (by decide)
  have HLP : Hid ((limbs (m + n)).length ≤ 1000000) := Nat.le_trans (limbs_add_len m n _ HLM.out HLN.out) (by decide)
  by_cases hst : s = t
  · have HE : Hid (sadd s m t n = (s && decide (0 < m + n), m + n)) := by unfold sadd; exact if_pos hst
    have hsd : (a.neg == b.neg) = true := by rw [hs.out, ht.out, hst]; simp
    go_enter Tryz.func217, Tryz.ntmps217
    go_wp2_with fail
    generalize hW : ((w.alloc (.cells #[.bool a.neg, .slice a.mag.A a.mag.n a.mag.c] 110)).alloc (.cells #[.bool b.neg, .slice b.mag.A b.mag.n b.mag.c] 110)).alloc (.cells #[.bool false, .slice none 0 0] 110) = W at *
    clear hW
    have hpr : ¬ w.heap.size = w.heap.size + 1 + 1 := by omega
    have hqr : ¬ w.heap.size + 1 = w.heap.size + 1 + 1 := by omega
    have hle : Hid (w.heap.size ≤ w.heap.size + 1 + 1) := Nat.le_trans (Nat.le_succ _) (Nat.le_succ _)
    generalize w.heap.size + 1 + 1 = r at *
    generalize w.heap.size + 1 = q at *
    generalize hp : w.heap.size = p at *
    have hPE := Lib.hid hp
    clear hp
    have hpr2 : ¬ r = p := fun e => hpr e.symm
    have hqr2 : ¬ r = q := fun e => hqr e.symm
    clear a0 a1 b0 b1
    obtain ⟨a0, a1⟩ := hB1.out.c2
    obtain ⟨b0, b1⟩ := hB2.out.c2
    have HM := Lib.hid (add_any W.drew a.mag b.mag _ _ (HA.out.gr (Gr.refl W).drew) (HB.out.gr (Gr.refl W).drew) HLA.out HLB.out)
    rw [val_limbs, val_limbs] at HM
    first | (go_region_held3 (fun W => W.cell? ⟨p, 0, none⟩ = some (.bool a.neg) ∧ W.cell? ⟨p, 1, none⟩ = some (.slice a.mag.A a.mag.n a.mag.c) ∧ W.cell? ⟨q, 0, none⟩ = some (.bool b.neg) ∧ W.cell? ⟨q, 1, none⟩ = some (.slice b.mag.A b.mag.n b.mag.c)) (first | go_keep | exact ⟨hk1.1, hk1.2, hk2.1, hk2.2⟩ | exact ⟨hj1.1, hj1.2, hj2.1, hj2.2⟩)
      (first | (go_at_call 272; refine HM.out.mono ?_; rintro e w1 ⟨z, rfl, hz, G1⟩; have hk1 := (G1.bk hB1.out).c2; have hk2 := (G1.bk hB2.out).c2; have HI := Lib.hid (imake_any w1 a.neg z _ hz HLP.out); have HBr := Lib.hid (G1.bk hB3.out); have HG1 := Lib.hid (HG.out.drew.trans G1); have hB1' := Lib.hid (G1.bk hB1.out); have hB2' := Lib.hid (G1.bk hB2.out); clear hz G1)
             | (go_at_call 151; refine HI.out.mono ?_; rintro e w2 ⟨i, rfl, hi, G2⟩; have hj1 := (G2.bk hB1'.out).c2; have hj2 := (G2.bk hB2'.out).c2; have HBs := Lib.hid (G2.bk HBr.out); obtain ⟨r0, r1⟩ := HBs.out.c2; have fz := HBs.out.frozen; have HG2 := Lib.hid (HG1.out.trans G2); have HII := Lib.hid hi; clear hi G2))) | fail
    obtain ⟨B5, F5⟩ := HBs.out.put2 (.bool i.neg) (.slice i.mag.A i.mag.n i.mag.c)
    have H5 := Lib.hid F5
    obtain ⟨d0, d1⟩ := B5.c2
    clear F5 B5
    go_wp2
    generalize (w2.setCell ⟨r, 0, none⟩ (.bool i.neg)).setCell ⟨r, 1, none⟩ (.slice i.mag.A i.mag.n i.mag.c) = W5 at *
    (try simp only [Exit.inBlock, Exit.then])
    refine bodyPost_ret (by simp [results, Tryz.results217, go_sem, d0, d1]; try rfl) rfl ?_
    exact ⟨i, rfl, by rw [HE.out]; exact ⟨by rw [HII.out.neg, hs.out], HII.out.mag.fr H5.out HBs.out (noLimb_int _ _ _ _)⟩, HG2.out.fr_at H5.out (by rw [hPE.out]; exact hle.out)⟩
  · have hsd : (a.neg == b.neg) = false := by rw [hs.out, ht.out]; simpa using hst
    have HC := Lib.hid (cmp_any _ a.mag b.mag _ _ HA.out HB.out)
    rw [val_limbs, val_limbs] at HC
    go_enter Tryz.func217, Tryz.ntmps217
    go_wp2_with fail
    refine HC.out.mono ?_
    rintro e w1 ⟨rfl, G1⟩
    have HG1 := Lib.hid (HG.out.trans G1)
    have HA1 := Lib.hid (HA.out.gr G1)
    have HB1' := Lib.hid (HB.out.gr G1)
    have C1 := Lib.hid (G1.bk hB1.out)
    have C2 := Lib.hid (G1.bk hB2.out)
    have C3 := Lib.hid (G1.bk hB3.out)
    clear G1 HC hB1 hB2 hB3 HG HA HB a0 a1 b0 b1
    have hpq : ¬ w.heap.size = w.heap.size + 1 := by omega
    have hpr : ¬ w.heap.size = w.heap.size + 1 + 1 := by omega
    have hqr : ¬ w.heap.size + 1 = w.heap.size + 1 + 1 := by omega
    have hle : Hid (w.heap.size ≤ w.heap.size + 1 + 1) := Nat.le_trans (Nat.le_succ _) (Nat.le_succ _)
    have hlq : Hid (w.heap.size ≤ w.heap.size + 1) := Nat.le_succ _
    generalize w.heap.size + 1 + 1 = r at *
    generalize w.heap.size + 1 = q at *
    generalize hp : w.heap.size = p at *
    have hPE := Lib.hid hp
    clear hp
    obtain ⟨a0, a1⟩ := C1.out.c2
    obtain ⟨b0, b1⟩ := C2.out.c2
    by_cases hmn : m < n
    · have hc : Hid (cmpN m n = -1) := cmpN_lt hmn
      have HE : Hid (sadd s m t n = (t && decide (0 < n - m), n - m)) := by
        unfold sadd
        rw [if_neg hst, if_pos hmn, decide_eq_true (by omega), Bool.and_true]
        exact rfl
      rw [hc.out]
      have f1 := C1.out.frozen
      have f2 := C2.out.frozen
      obtain ⟨D1, F1⟩ := C1.out.put2 (.bool b.neg) (.slice b.mag.A b.mag.n b.mag.c)
      have D2 := F1.bk C2.out fun e => hpq e.symm
      obtain ⟨E2, F2⟩ := D2.put2 (.bool a.neg) (.slice a.mag.A a.mag.n a.mag.c)
      have E1 := F2.bk D1 hpq
      have E3 := F2.bk (F1.bk C3.out fun e => hpr e.symm) fun e => hqr e.symm
      have HA2 := Lib.hid ((HA1.out.fr F1 C1.out (noLimb_int _ _ _ _)).fr F2 D2 (noLimb_int _ _ _ _))
      have HB2 := Lib.hid ((HB1'.out.fr F1 C1.out (noLimb_int _ _ _ _)).fr F2 D2 (noLimb_int _ _ _ _))
      have HG2 := Lib.hid ((HG1.out.fr_at F1 (Nat.le_of_eq hPE.out)).fr_at F2 (by rw [hPE.out]; exact hlq.out))
      have HD2 := Lib.hid D2
      have HE1 := Lib.hid E1
      have HE2 := Lib.hid E2
      have HE3 := Lib.hid E3
      clear D1 D2 E1 E2 E3 F1 F2
      go_wp2_with fail
      generalize (((w1.setCell ⟨p, 0, none⟩ (.bool b.neg)).setCell ⟨p, 1, none⟩ (.slice b.mag.A b.mag.n b.mag.c)).setCell ⟨q, 0, none⟩ (.bool a.neg)).setCell ⟨q, 1, none⟩ (.slice a.mag.A a.mag.n a.mag.c) = W2 at *
      have HMN : val (limbs m) ≤ val (limbs n) := by rw [val_limbs, val_limbs]; omega
      have HLS : Hid ((limbs (n - m)).length ≤ 1000000) := Nat.le_trans (limbs_len_mono (Nat.sub_le n m)) HLB.out
      clear hc
      have H7 := Lib.hid (sub_any W2 b.mag a.mag _ _ HB2.out HA2.out HLB.out HLA.out HMN)
      rw [val_limbs, val_limbs] at H7
      refine H7.out.mono ?_
      rintro e w3 ⟨z, rfl, hz, G3⟩
      have HZ := Lib.hid hz
      have HG3 := Lib.hid (HG2.out.trans G3)
      obtain ⟨p0, p1⟩ := (G3.bk HE1.out).c2
      have HR3 := Lib.hid (G3.bk HE3.out)
      have HI := Lib.hid (imake_any w3 b.neg z _ hz HLS.out)
      clear hz G3 H7
      go_wp2_with fail
      refine HI.out.mono ?_
      rintro e w4 ⟨i, rfl, hi, G4⟩
      have HII := Lib.hid hi
      have HG4 := Lib.hid (HG3.out.trans G4)
      have HBs := Lib.hid (G4.bk HR3.out)
      obtain ⟨r0, r1⟩ := HBs.out.c2
      have fz := HBs.out.frozen
      clear hi G4 HI
      obtain ⟨B5, F5⟩ := HBs.out.put2 (.bool i.neg) (.slice i.mag.A i.mag.n i.mag.c)
      have H5 := Lib.hid F5
      obtain ⟨d0, d1⟩ := B5.c2
      clear F5 B5
      go_wp2
      generalize (w4.setCell ⟨r, 0, none⟩ (.bool i.neg)).setCell ⟨r, 1, none⟩ (.slice i.mag.A i.mag.n i.mag.c) = W5 at *
      (try simp only [Exit.inBlock, Exit.then])
      refine bodyPost_ret (by simp [results, Tryz.results217, go_sem, d0, d1]; try rfl) rfl ?_
      exact ⟨i, rfl, by rw [HE.out]; exact ⟨by rw [HII.out.neg, ht.out], HII.out.mag.fr H5.out HBs.out (noLimb_int _ _ _ _)⟩, HG4.out.fr_at H5.out (by rw [hPE.out]; exact hle.out)⟩
    · have hc0 : 0 ≤ cmpN m n := by unfold cmpN; rw [if_neg hmn]; split <;> omega
      have HE : Hid (sadd s m t n = (s && decide (0 < m - n), m - n)) := by
        unfold sadd
        rw [if_neg hst, if_neg hmn]
        exact rfl
      have hcd : decide (cmpN m n < 0) = false := by simp; omega
      generalize cmpN m n = cm at *
      have HMN : val (limbs n) ≤ val (limbs m) := by rw [val_limbs, val_limbs]; omega
      have HLS : Hid ((limbs (m - n)).length ≤ 1000000) := Nat.le_trans (limbs_len_mono (Nat.sub_le m n)) HLA.out
      go_wp2_with fail
      have H7 := Lib.hid (sub_any w1 a.mag b.mag _ _ HA1.out HB1'.out HLA.out HLB.out HMN)
      rw [val_limbs, val_limbs] at H7
      refine H7.out.mono ?_
      rintro e w3 ⟨z, rfl, hz, G3⟩
      have HZ := Lib.hid hz
      have HG3 := Lib.hid (HG1.out.trans G3)
      obtain ⟨p0, p1⟩ := (G3.bk C1.out).c2
      have HR3 := Lib.hid (G3.bk C3.out)
      have HI := Lib.hid (imake_any w3 a.neg z _ hz HLS.out)
      clear hz G3 H7
      go_wp2_with fail
      refine HI.out.mono ?_
      rintro e w4 ⟨i, rfl, hi, G4⟩
      have HII := Lib.hid hi
      have HG4 := Lib.hid (HG3.out.trans G4)
      have HBs := Lib.hid (G4.bk HR3.out)
      obtain ⟨r0, r1⟩ := HBs.out.c2
      have fz := HBs.out.frozen
      clear hi G4 HI
      obtain ⟨B5, F5⟩ := HBs.out.put2 (.bool i.neg) (.slice i.mag.A i.mag.n i.mag.c)
      have H5 := Lib.hid F5
      obtain ⟨d0, d1⟩ := B5.c2
      clear F5 B5
      go_wp2
      generalize (w4.setCell ⟨r, 0, none⟩ (.bool i.neg)).setCell ⟨r, 1, none⟩ (.slice i.mag.A i.mag.n i.mag.c) = W5 at *
      (try simp only [Exit.inBlock, Exit.then])
      refine bodyPost_ret (by simp [results, Tryz.results217, go_sem, d0, d1]; try rfl) rfl ?_
      exact ⟨i, rfl, by rw [HE.out]; exact ⟨by rw [HII.out.neg, hs.out], HII.out.mag.fr H5.out HBs.out (noLimb_int _ _ _ _)⟩, HG4.out.fr_at H5.out (by rw [hPE.out]; exact hle.out)⟩
end Go.Proofs.YtcmfepaffhnemaaGreatDoor

set_option linter.unusedVariables false
namespace Go.Proofs.YtcmfepaffhnemaaGreatDoor
open Go.RowKit

attribute [local go_sem] Oper.semAt_some

theorem made2 (w : World) (t u : TypeId) (a b : Array Value) :
    Bk ((w.alloc (.cells a t)).alloc (.cells b u)) w.heap.size t a ∧ Bk ((w.alloc (.cells a t)).alloc (.cells b u)) (w.heap.size + 1) u b ∧ Gr w ((w.alloc (.cells a t)).alloc (.cells b u)) := by
  have s1 : (w.alloc (.cells a t)).heap.size = w.heap.size + 1 := World.size_alloc ..
  refine ⟨(Bk.made w t a).alloc _, ?_, ((Gr.refl w).alloc _).alloc _⟩
  have := Bk.made (w.alloc (.cells a t)) u b
  rwa [s1] at this
def cmpI (s : Bool) (m : Nat) (t : Bool) (n : Nat) : Int := if isg s m < isg t n then -1 else if isg t n < isg s m then 1 else if isg s m < 0 then cmpN n m else cmpN m n

set_option maxRecDepth 100000 in
set_option maxHeartbeats 4000000 in
theorem icmp_any (w : World) (a b : Iv) (s t : Bool) (m n : Nat) (ha : a.Is w s m) (hb : b.Is w t n) (hm : (limbs m).length ≤ 1000000) (hn : (limbs n).length ≤ 1000000) :
    Calls Tryz.prog 123 #[a.v, b.v] w fun e w' => e = .returned (.int .i64 (cmpI s m t n)) ∧ Gr w w' := by
  obtain ⟨B1, B2, G⟩ := made2 w 110 110 #[.bool a.neg, .slice a.mag.A a.mag.n a.mag.c] #[.bool b.neg, .slice b.mag.A b.mag.n b.mag.c]
  have HA := Lib.hid (ha.gr G)
  have HB := Lib.hid (hb.gr G)
  have HG := Lib.hid G
  have HLM := Lib.hid hm
  have HLN := Lib.hid hn
  have hB1 := Lib.hid B1
  have hB2 := Lib.hid B2
  clear ha hb hm hn G B1 B2
  simp only [Iv.v]
  go_enter Tryz.func123, Tryz.ntmps123
  go_wp2_with fail
  generalize hW : (w.alloc (.cells #[.bool a.neg, .slice a.mag.A a.mag.n a.mag.c] 110)).alloc (.cells #[.bool b.neg, .slice b.mag.A b.mag.n b.mag.c] 110) = W at *
  clear hW
  generalize w.heap.size + 1 = q at *
  generalize w.heap.size = p at *
  obtain ⟨a0, a1⟩ := hB1.out.c2
  obtain ⟨b0, b1⟩ := hB2.out.c2
  have HS1 := Lib.hid (isign_any W.drew a s m (HA.out.gr (Gr.refl W).drew) HLM.out)
  simp only [Iv.v] at HS1
  have hE : Hid (cmpI s m t n = if isg s m < isg t n then -1 else if isg t n < isg s m then 1 else if isg s m < 0 then cmpN n m else cmpN m n) := rfl
  generalize isg s m = sm at *
  have HS2 : Hid (∀ W2, Gr W W2 → Calls Tryz.prog 107 #[b.v] W2 fun e w' => e = .returned (.int .i64 (isg t n)) ∧ Gr W2 w') := fun W2 G => isign_any W2 b t n (HB.out.gr G) HLN.out
  generalize isg t n = tn at *
  simp only [Iv.v] at HS2
  first | (go_region_held3 (fun W => W.cell? ⟨p, 0, none⟩ = some (.bool a.neg) ∧ W.cell? ⟨p, 1, none⟩ = some (.slice a.mag.A a.mag.n a.mag.c) ∧ W.cell? ⟨q, 0, none⟩ = some (.bool b.neg) ∧ W.cell? ⟨q, 1, none⟩ = some (.slice b.mag.A b.mag.n b.mag.c)) (first | go_keep | exact ⟨hk1.1, hk1.2, hk2.1, hk2.2⟩ | exact ⟨hj1.1, hj1.2, hj2.1, hj2.2⟩)
    (first | (go_at_call 107; refine (HS2.out w1 HG1.out).mono ?_; rintro e w2 ⟨rfl, G2⟩; have hj1 := (HG1.out.trans G2 |>.bk hB1.out).c2; have hj2 := (HG1.out.trans G2 |>.bk hB2.out).c2; have HG2 := Lib.hid (HG1.out.trans G2); clear G2)
           | (go_at_call 107; refine HS1.out.mono ?_; rintro e w1 ⟨rfl, G1⟩; have hk1 := (G1.bk hB1.out).c2; have hk2 := (G1.bk hB2.out).c2; have HG1 := Lib.hid ((Gr.refl W).drew.trans G1); clear G1))) | fail
  obtain ⟨k0, k1⟩ := hj1
  obtain ⟨l0, l1⟩ := hj2
  have HF := Lib.hid (HG.out.trans HG2.out)
  have HC1 := Lib.hid (cmp_any w2 a.mag b.mag _ _ (HA.out.mag.gr HG2.out) (HB.out.mag.gr HG2.out))
  have HC2 := Lib.hid (cmp_any w2 b.mag a.mag _ _ (HB.out.mag.gr HG2.out) (HA.out.mag.gr HG2.out))
  rw [val_limbs, val_limbs] at HC1 HC2
  clear HS1 HS2
  by_cases h1 : sm < tn
  · rw [if_pos h1] at hE
    have hd : decide (sm < tn) = true := by simp [h1]
    go_wp2
    go_ret
    exact ⟨by rw [hE.out]; rfl, HF.out⟩
  · have hd : decide (sm < tn) = false := by simp; omega
    rw [if_neg h1] at hE
    by_cases h2 : tn < sm
    · rw [if_pos h2] at hE
      have hd2 : decide (tn < sm) = true := by simp [h2]
      go_wp2
      go_ret
      exact ⟨by rw [hE.out]; rfl, HF.out⟩
    · rw [if_neg h2] at hE
      have hd2 : decide (tn < sm) = false := by simp; omega
      by_cases h3 : sm < 0
      · rw [if_pos h3] at hE
        have hd3 : decide (sm < 0) = true := by simp [h3]
        generalize cmpN n m = c at *
        go_wp2_with fail
        refine HC2.out.mono ?_
        rintro e w3 ⟨rfl, G3⟩
        have HG3 := Lib.hid (HF.out.trans G3)
        clear G3
        go_wp2
        go_ret
        exact ⟨by rw [hE.out]; rfl, HG3.out⟩
      · rw [if_neg h3] at hE
        have hd3 : decide (sm < 0) = false := by simp; omega
        generalize cmpN m n = c at *
        go_wp2_with fail
        refine HC1.out.mono ?_
        rintro e w3 ⟨rfl, G3⟩
        have HG3 := Lib.hid (HF.out.trans G3)
        clear G3
        go_wp2
        go_ret
        exact ⟨by rw [hE.out]; rfl, HG3.out⟩

set_option maxRecDepth 100000 in
set_option maxHeartbeats 4000000 in
theorem iof_any (w : World) (x : Int) (h1 : -1000000000 ≤ x) (h2 : x ≤ 1000000000) :
    Calls Tryz.prog 162 #[.int .i64 x] w fun e w' => ∃ r : Iv, e = .returned r.v ∧ r.Is w' (decide (x < 0)) x.natAbs ∧ Gr w w' := by
  have b1 := Bk.made w 110 #[.bool false, .slice none 0 0]
  have HG1 := Lib.hid ((Gr.refl w).alloc (.cells #[.bool false, .slice none 0 0] 110))
  have HB := Lib.hid b1
  clear b1
  have HO := Lib.hid (fun W => of_any W x.natAbs (by omega))
  by_cases h0 : x < 0
  · have hd : decide (x < 0) = true := by simp [h0]
    rw [hd]
    obtain ⟨n, rfl⟩ : ∃ n : Nat, x = -(n : Int) := ⟨x.natAbs, by omega⟩
    rw [show (-(n : Int)).natAbs = n by omega] at *
    go_enter Tryz.func162, Tryz.ntmps162
    have hw : IntKind.u64.wrap (-IntKind.u64.wrap (-(n : Int))) = (n : Int) := by rw [IntKind.wrap_u64, IntKind.wrap_u64]; omega
    go_wp2_with fail
    refine (HO.out _).mono ?_
    rintro e w1 ⟨z, rfl, hz, G1⟩
    have HZ := Lib.hid hz
    have HG2 := Lib.hid (HG1.out.trans G1)
    have HBs := Lib.hid (G1.bk HB.out)
    obtain ⟨r0, r1⟩ := HBs.out.c2
    have fz := HBs.out.frozen
    clear hz G1 hw HB
    generalize hp : w.heap.size = r at *
    have hPE := Lib.hid hp
    clear hp
    obtain ⟨B5, F5⟩ := HBs.out.put2 (.bool true) (.slice z.A z.n z.c)
    have H5 := Lib.hid F5
    obtain ⟨d0, d1⟩ := B5.c2
    clear F5 B5
    go_wp2
    generalize (w1.setCell ⟨r, 0, none⟩ (.bool true)).setCell ⟨r, 1, none⟩ (.slice z.A z.n z.c) = W5 at *
    (try simp only [Exit.inBlock, Exit.then])
    refine bodyPost_ret (by simp [results, Tryz.results162, go_sem, d0, d1]; try rfl) rfl ?_
    exact ⟨⟨true, z⟩, rfl, ⟨rfl, HZ.out.fr H5.out HBs.out (noLimb_int _ _ _ _)⟩, HG2.out.fr_at H5.out (Nat.le_of_eq hPE.out)⟩
  · have hd : decide (x < 0) = false := by simp; omega
    rw [hd]
    obtain ⟨n, rfl⟩ : ∃ n : Nat, x = (n : Int) := ⟨x.natAbs, by omega⟩
    rw [show ((n : Int)).natAbs = n by omega] at *
    go_enter Tryz.func162, Tryz.ntmps162
    have hw : IntKind.u64.wrap (n : Int) = (n : Int) := by rw [IntKind.wrap_u64]; omega
    go_wp2_with fail
    refine (HO.out _).mono ?_
    rintro e w1 ⟨z, rfl, hz, G1⟩
    have HZ := Lib.hid hz
    have HG2 := Lib.hid (HG1.out.trans G1)
    have HBs := Lib.hid (G1.bk HB.out)
    obtain ⟨r0, r1⟩ := HBs.out.c2
    have fz := HBs.out.frozen
    clear hz G1 hw HB
    generalize hp : w.heap.size = r at *
    have hPE := Lib.hid hp
    clear hp
    obtain ⟨B5, F5⟩ := HBs.out.put2 (.bool false) (.slice z.A z.n z.c)
    have H5 := Lib.hid F5
    obtain ⟨d0, d1⟩ := B5.c2
    clear F5 B5
    go_wp2
    generalize (w1.setCell ⟨r, 0, none⟩ (.bool false)).setCell ⟨r, 1, none⟩ (.slice z.A z.n z.c) = W5 at *
    (try simp only [Exit.inBlock, Exit.then])
    refine bodyPost_ret (by simp [results, Tryz.results162, go_sem, d0, d1]; try rfl) rfl ?_
    exact ⟨⟨false, z⟩, rfl, ⟨rfl, HZ.out.fr H5.out HBs.out (noLimb_int _ _ _ _)⟩, HG2.out.fr_at H5.out (Nat.le_of_eq hPE.out)⟩
end Go.Proofs.YtcmfepaffhnemaaGreatDoor

set_option linter.unusedVariables false
namespace Go.Proofs.YtcmfepaffhnemaaGreatDoor
open Go.RowKit

attribute [local go_sem] Oper.semAt_some

theorem Q.dec_eq (x y : Q) : decide (x = y) = (x.neg == y.neg && (decide (x.num = y.num) && decide (x.den = y.den))) := by
  obtain ⟨s, m, k⟩ := x
  obtain ⟨t, n, l⟩ := y
  rw [Bool.eq_iff_iff]
  simp only [decide_eq_true_eq, Bool.and_eq_true, beq_iff_eq, Q.mk.injEq]

set_option maxRecDepth 100000 in
set_option maxHeartbeats 4000000 in
theorem eq_any (w : World) (x y : Sv) (m n : Nat) (hx : x.Num w (limbs m)) (hy : y.Num w (limbs n)) :
    Calls Tryz.prog 113 #[.slice x.A x.n x.c, .slice y.A y.n y.c] w fun e w' => e = .returned (.bool (decide (m = n))) ∧ Gr w w' := by
  obtain ⟨A, k, c⟩ := x
  obtain ⟨B, l, d⟩ := y
  have hk := hx.len
  have hl := hy.len
  have hk9 := hx.is.max
  have hkc := hx.is.cap
  simp only at hk hl hk9 hkc
  have HX := Lib.hid hx
  have HY := Lib.hid hy
  by_cases hkl : k = l
  · subst hkl
    have hnn : ((k : Int) != k) = false := by simp
    have HK := Lib.hid hk
    have HL := Lib.hid hl
    clear hx hy hk hl
    simp only
    go_enter Tryz.func113, Tryz.ntmps113
    go_wp2
    go_loopw [13] (fun i wr => ∃ t : Nat, i = .int .i64 t ∧ t ≤ k ∧ Hid ((limbs m).take t = (limbs n).take t) ∧ Hid (Gr w wr)) (fun i _ => k - (intOf i).toNat)
    case atStart => exact ⟨0, rfl, Nat.zero_le _, rfl, Gr.refl w⟩
    case round =>
      obtain ⟨t, rfl, ht, hT, hG⟩ := hrel
      by_cases htk : t < k
      · obtain ⟨p, ad, hp, hp9, hA, hb, d1⟩ := (HX.out.gr hG.out).at (i := t) htk
        obtain ⟨q, ad2, hq, hq9, hB, hb2, d2⟩ := (HY.out.gr hG.out).at (i := t) htk
        simp only at hA hB
        subst hA hB
        have e1 : wr.drew.cell? (ad.add t) = some (.int .u32 p) := d1
        have e2 : wr.drew.cell? (ad2.add t) = some (.int .u32 q) := d2
        have hG3 : Hid (Gr w wr.drew) := hG.out.drew
        by_cases hpq : p = q
        · subst hpq
          have HT : Hid ((limbs m).take (t + 1) = (limbs n).take (t + 1)) := by
            rw [List.take_add_one, List.take_add_one, hT.out, hp, hq]
            exact rfl
          clear hp hq hp9 hq9 hb hb2 hT
          go_wp2
          go_region
          all_goals go_wp2
          all_goals go_roundw
          all_goals first
            | exact ⟨t + 1, by go_num, by omega, HT, hG3⟩
            | (simp [intOf]; omega)
        · have hpd : ((p : Int) != q) = true := by simp; omega
          have HE : Hid (decide (m = n) = false) := by
            have h : ¬ m = n := fun e => by
              subst e
              rw [hp] at hq
              injection hq with hq
              exact hpq hq
            exact decide_eq_false h
          clear hp hq hp9 hq9 hb hb2 hT
          go_wp2
          go_region
          all_goals go_wp2
          all_goals go_ret
          all_goals exact ⟨by rw [HE.out]; rfl, hG3.out⟩
      · obtain rfl : t = k := by omega
        have HE : Hid (decide (m = n) = true) := by
          have h := hT.out
          rw [List.take_of_length_le (by rw [HK.out]; exact Nat.le_refl _), List.take_of_length_le (by rw [HL.out]; exact Nat.le_refl _)] at h
          exact decide_eq_true (limbs_inj h)
        clear hT
        go_wp2
        go_ret
        exact ⟨by rw [HE.out]; rfl, hG.out⟩
  · have hnn : ((k : Int) != l) = true := by simp; omega
    have HE : Hid (decide (m = n) = false) := by
      have h : ¬ m = n := fun e => hkl (by rw [← hk, ← hl, e])
      exact decide_eq_false h
    clear hx hy hk hl
    simp only
    go_enter Tryz.func113, Tryz.ntmps113
    go_wp2
    go_ret
    exact ⟨by rw [HE.out]; rfl, Gr.refl w⟩

set_option maxRecDepth 100000 in
set_option maxHeartbeats 4000000 in
theorem same_any (w : World) (a b : Rv) (x y : Q) (ha : a.Is w x) (hb : b.Is w y) :
    Calls Tryz.prog 72 #[a.v, b.v] w fun e w' => e = .returned (.bool (decide (x = y))) ∧ Gr w w' := by
  obtain ⟨B1, B2, G⟩ := made2 w 41 41 #[.bool a.neg, .slice a.num.A a.num.n a.num.c, .slice a.den.A a.den.n a.den.c] #[.bool b.neg, .slice b.num.A b.num.n b.num.c, .slice b.den.A b.den.n b.den.c]
  have HA := Lib.hid (ha.gr G)
  have HB := Lib.hid (hb.gr G)
  have HG := Lib.hid G
  have C1 := Lib.hid B1
  have C2 := Lib.hid B2
  obtain ⟨a0, a1, a2⟩ := B1.c3
  obtain ⟨b0, b1, b2⟩ := B2.c3
  have N1 := Lib.hid ha.neg
  have N2 := Lib.hid hb.neg
  have hE : Hid (decide (x = y) = (a.neg == b.neg && (decide (x.num = y.num) && decide (x.den = y.den)))) := by
    rw [N1.out, N2.out]
    exact Q.dec_eq x y
  have HE1 := Lib.hid (eq_any _ a.num b.num _ _ HA.out.num HB.out.num)
  clear ha hb B1 B2 G
  simp only [Rv.v]
  cases hn : (a.neg == b.neg)
  · rw [hn] at hE
    go_enter Tryz.func72, Tryz.ntmps72
    go_wp2
    go_ret
    exact ⟨by rw [hE.out]; rfl, HG.out⟩
  · rw [hn] at hE
    go_enter Tryz.func72, Tryz.ntmps72
    go_wp2_with fail
    go_at_call 113
    refine HE1.out.mono ?_
    rintro e w1 ⟨rfl, G1⟩
    have HG1 := Lib.hid (HG.out.trans G1)
    have HE2 := Lib.hid (eq_any w1 a.den b.den _ _ (HA.out.den.gr G1) (HB.out.den.gr G1))
    obtain ⟨f0, f1, f2⟩ := (G1.bk C1.out).c3
    obtain ⟨g0, g1, g2⟩ := (G1.bk C2.out).c3
    clear G1 HE1 a0 a1 a2 b0 b1 b2
    cases h1 : decide (x.num = y.num)
    · rw [h1] at hE
      go_wp2
      go_ret
      exact ⟨by rw [hE.out]; rfl, HG1.out⟩
    · rw [h1] at hE
      generalize decide (x.den = y.den) = d at *
      go_wp2_with fail
      go_at_call 113
      refine HE2.out.mono ?_
      rintro e w2 ⟨rfl, G2⟩
      have HG2 := Lib.hid (HG1.out.trans G2)
      clear G2 HE2
      go_wp2
      go_ret
      exact ⟨by rw [hE.out]; rfl, HG2.out⟩

end Go.Proofs.YtcmfepaffhnemaaGreatDoor
