/- The reference on numbers. -/
import Derived.Test.YtcmfepaffhnemaaGreatDoorMa
import Derived.Test.YtcmfepaffhnemaaGreatDoorMb
import Derived.Deep.RegionHeld3
import Derived.Test.YtcmfepaffhnemaaGreatDoorMc
import Derived.Deep.Cut
import Derived.Lib.MinMax
set_option linter.unusedSimpArgs false
set_option linter.unusedVariables false
namespace Go.Proofs.YtcmfepaffhnemaaGreatDoor
open Go.RowKit

attribute [local go_sem] Oper.semAt_some

theorem num_empty (w : World) (ad : Addr) : Sv.Num w ⟨some ad, 0, 0⟩ [] := ⟨⟨by simp, Nat.le_refl _, by simp, fun e => (by cases e), Sees.nil⟩, Lim.nil, fun _ _ h => absurd h (Nat.lt_irrefl _)⟩
theorem append_types {P : Program} {t tx e e' : TypeId} (ht : P.underlying t = some (.slice e)) (hx : P.underlying tx = some (.slice e')) (ty : TypeId) (b : Option Addr) (n c : Nat) (x : Value) (w : World) :
    (Builtin.append_ #[t, tx] ty #[.slice b n c, x]).run P w = (Builtin.append_ #[t, t] ty #[.slice b n c, x]).run P w := by
  simp [Builtin.append_, run_underlying ht, run_underlying hx]
/-- append onto a new row, from a slice of another type. -/
theorem wpList_appX {P : Program} {t tx e size bytes : Nat} (h : ElemS P t e size bytes) (hu : P.underlying tx = some (.slice e)) {w : World} {ops : Array Oper} {rest : List Oper} {o : Oper} {a : Act} {Q : Exit → Act → World → Prop} (hgd : o.guard = none) (s x : Operand) (ho : o.op = .call { callee := .builtin .append, args := #[s, x], argTypes := #[t, tx] })
    (base : Nat) (v : Value) (n : Nat) (xs : List Value) (hs : a.eval s = v) (hown : w.ownsRow base e size v n xs) (ad : Addr) (m c : Nat) (news : List Value) (hx : a.eval x = .slice (some ad) m c) (hl : news.length = m * size) (hnews : ∀ j u, news[j]? = some u → w.cell? (ad.add j) = some u) (h1 : ∀ u ∈ news, u.oneCell' = true)
    (h63 : n + m ≤ maxLen) (hbytes : (n + m) * bytes ≤ 140737488355328) (hbase : base ≤ w.heap.size)
    (hK : ∀ v' w', w'.ownsRow base e size v' (n + m) (xs ++ news) → w.grownBy w' v.ownBlock → (v'.ownBlock = v.ownBlock ∨ v'.ownBlock = some w.heap.size) → wpList P ops Q rest (a.put o.dst v') w') :
    wpList P ops Q (o :: rest) a w := by
  obtain ⟨i, z, hi, hz, hsz, hby, hzs⟩ := h.hi
  obtain ⟨v', w', hrun, h2, h3, _, h5⟩ := run_append_own_at (P := P) w base t o.type e i z size bytes h.ht hi hz hsz hby hzs h.pos v n xs hown ad m c news hl hnews h1 h63 hbytes hbase
  obtain ⟨b0, c0, rfl⟩ := rw_form hown
  rw [← append_types h.ht hu] at hrun
  refine wpList_plain hgd fun _ hK' => ?_
  unfold Oper.wp execOp
  simp only [ho, resolve, invoke, builtin, Sem.run_bind, Sem.run_pure, Result.andThen_ok, List.map_toArray, List.map_cons, List.map_nil, hs, hx, hrun]
  exact hK' _ _ (hK v' w' h2 h3 h5)

set_option maxRecDepth 100000 in
set_option maxHeartbeats 1000000 in
theorem rmake_any (w : World) (x : Sv) (l : List Nat) (h : x.Num w l) (hl9 : l.length ≤ 1000000) :
    Calls Tryz.prog 117 #[.slice x.A x.n x.c] w fun e w' => ∃ y : Sv, e = .returned y.v ∧ y.Num w' (limbs (val l)) ∧ Gr w w' := by
  obtain ⟨A, n, c⟩ := x
  have HI := Lib.hid h
  have hn := h.is.cap
  have hc := h.is.max
  have HL := Lib.hid h.len
  simp only at hn hc HL ⊢
  have hn9 : n ≤ 1000000 := by rw [← HL.out]; exact hl9
  have HU := Lib.hid (show Tryz.prog.underlying 38 = some (.slice 211) by kernel_rfl)
  clear h hl9
  go_enter Tryz.func117, Tryz.ntmps117
  go_wp2
  go_loopw [3] (fun s wr => ∃ k : Nat, s = .int .i64 k ∧ k ≤ n ∧ Hid (∀ i x, k ≤ i → l[i]? = some x → x = 0) ∧ Hid (Gr w wr)) (fun s _ => (intOf s).toNat)
  case atStart => exact ⟨n, rfl, Nat.le_refl _, (fun i x hi hx => by rw [List.getElem?_eq_none (by rw [HL.out]; exact hi)] at hx; cases hx), Gr.refl w⟩
  case round =>
    obtain ⟨k, rfl, hk, hZ, hG⟩ := hrel
    cases k with
    | zero =>
      have HE : Hid (limbs (val l) = []) := by
        rw [← trimmed (k := 0) HI.out.lim (Nat.zero_le _) hZ.out (fun x hx => absurd hx (by omega))]
        exact List.take_zero
      cases A with
      | none =>
        go_wp2
        go_ret
        exact ⟨⟨some ⟨wr.heap.size, 0, none⟩, 0, 0⟩, rfl, by rw [HE.out]; exact num_empty _ _, hG.out.alloc _⟩
      | some ad =>
        go_wp2
        go_ret
        exact ⟨⟨some ⟨wr.heap.size, 0, none⟩, 0, 0⟩, rfl, by rw [HE.out]; exact num_empty _ _, hG.out.alloc _⟩
    | succ j =>
      obtain ⟨y, ad, hy, hy9, hA, hb, d⟩ := (HI.out.gr hG.out).at (i := j) hk
      simp only at hA
      subst hA
      have hw1 : IntKind.i64.wrap ((j : Int) + 1 - 1) = (j : Int) := by rw [IntWalk.i64_in _ (by omega)]; omega
      have hw2 : IntKind.i64.wrap (((j + 1 : Nat) : Int) - 1) = (j : Int) := by rw [IntWalk.i64_in _ (by omega)]; omega
      by_cases hy0 : y = 0
      · subst hy0
        have HZ := Lib.hid (zero_down hZ.out hy)
        clear hy hy9 hb hZ
        go_wp2
        go_roundw
        case rel => exact ⟨j, by go_num, by omega, HZ, hG⟩
        case measure => first | (simp [intOf]; done) | (simp [intOf]; omega)
      · have HT := Lib.hid (trimmed (k := j + 1) HI.out.lim (by rw [HL.out]; exact hk) hZ.out (fun x _ hx => by
          rw [Nat.add_sub_cancel, hy] at hx
          injection hx with hx
          omega))
        have HY := Lib.hid ((HI.out.gr hG.out).take (k := j + 1) hk)
        rw [HT.out] at HY
        have HO : Hid ((wr.alloc (.cells #[] 211)).ownsRow wr.heap.size 211 1 (.slice (some ⟨wr.heap.size, 0, none⟩) 0 0) 0 []) := ⟨rfl, .inr ⟨wr.heap.size, 0, #[], rfl, Nat.le_refl _, Bk.made _ _ _, Nat.le_refl _, Nat.zero_le _, rfl, rfl⟩⟩
        have HC : Hid (∀ i u, ((limbs (val l)).map lv)[i]? = some u → (wr.alloc (.cells #[] 211)).cell? (ad.add i) = some u) := (HY.out.is.gr ((Gr.refl wr).alloc _)).cells rfl
        have H1 : Hid (((limbs (val l)).map lv).length = (j + 1) * 1) := HY.out.is.len
        have HL1 : Hid (∀ u ∈ (limbs (val l)).map lv, u.oneCell' = true) := fun u hu => by
          obtain ⟨y, _, rfl⟩ := List.mem_map.1 hu
          rfl
        clear hy hy9 hb hZ
        go_wp2_with (at_builtin; refine wpList_appX elemN HU.out rfl _ _ rfl wr.heap.size (.slice (some ⟨wr.heap.size, 0, none⟩) 0 0) 0 [] rfl HO.out ad (j + 1) c ((limbs (val l)).map lv) rfl H1.out HC.out HL1.out (by unfold maxLen; omega) (by omega) (by simp) ?_; intro v' w' h2 h3 h5)
        go_wp2
        go_ret
        rw [Nat.zero_add, List.nil_append] at h2
        obtain ⟨z, rfl, _, hz, hty⟩ := Sv.of_row h2 (by decide)
        exact ⟨z, rfl, ⟨hz, limbs_lim _, hty⟩, hG.out.trans (Gr.of_own h3)⟩

set_option maxRecDepth 100000 in
set_option maxHeartbeats 1000000 in
theorem rnof_any (w : World) (x : Nat) (hx : x < 18446744073709551616) : Calls Tryz.prog 83 #[.int .u64 x] w fun e w' => ∃ z : Sv, e = .returned z.v ∧ z.Num w' (limbs x) ∧ Gr w w' := by
  obtain ⟨lo, hi, hlo, hhi, e⟩ : ∃ lo hi, lo < B32 ∧ hi < B32 ∧ x = lo + B32 * hi := ⟨x % B32, x / B32, Nat.mod_lt _ (by decide), Nat.div_lt_of_lt_mul (by rw [B32_eq]; omega), (Nat.mod_add_div x B32).symm⟩
  have E1 : (x : Int) % 4294967296 = lo := by rw [B32_eq] at e hlo; omega
  have E2 : (x : Int) / 4294967296 = hi := by rw [B32_eq] at e hlo hhi; omega
  have HR : Hid (Lb (w.alloc (.cells #[.int .u32 lo, .int .u32 hi] 211)) w.heap.size [lo, hi]) := Bk.made w 211 #[.int .u32 lo, .int .u32 hi]
  have HG := Lib.hid ((Gr.refl w).alloc (.cells #[.int .u32 lo, .int .u32 hi] 211))
  have HT := Lib.hid (rmake_any _ ⟨some ⟨w.heap.size, 0, none⟩, 2, 2⟩ [lo, hi] (num_of_row HR.out (fun y hy => by simp at hy; rcases hy with rfl | rfl <;> assumption) rfl (by decide)) (by simp))
  rw [show val [lo, hi] = x by rw [e]; simp [val]] at HT
  clear e
  go_enter Tryz.func83, Tryz.ntmps83
  go_wp2_with fail
  refine HT.out.mono ?_
  rintro e w1 ⟨z, rfl, hz, G1⟩
  have HZ := Lib.hid hz
  have HG1 := Lib.hid (HG.out.trans G1)
  clear hz G1 HT
  go_wp2
  go_ret
  exact ⟨z, rfl, HZ.out, HG1.out⟩

set_option maxRecDepth 100000 in
set_option maxHeartbeats 1000000 in
theorem limb_any (w : World) (x : Sv) (l : List Nat) (i : Nat) (hx : x.Num w l) (hi : i ≤ 1000000000) :
    Calls Tryz.prog 116 #[.slice x.A x.n x.c, .int .i64 i] w fun e w' => e = .returned (.int .u32 (lim0 l i)) ∧ w' = w := by
  obtain ⟨A, n, c⟩ := x
  have hl := hx.len
  simp only at hl
  by_cases h : i < n
  · obtain ⟨p, ad, hp, hp9, hA, hb, d⟩ := hx.at (i := i) h
    simp only at hA
    subst hA
    have HE := Lib.hid (lim0_at hp)
    clear hp hp9 hb hx hl
    go_enter Tryz.func116, Tryz.ntmps116
    go_wp2
    go_ret
    exact ⟨by rw [HE.out]; rfl, rfl⟩
  · have HE : Hid (lim0 l i = 0) := lim0_past (by omega)
    have hd : decide ((i : Int) < n) = false := by simp; omega
    clear hx hl
    go_enter Tryz.func116, Tryz.ntmps116
    go_wp2
    go_ret
    exact ⟨by rw [HE.out]; rfl, rfl⟩

set_option maxRecDepth 100000 in
set_option maxHeartbeats 1000000 in
theorem ruint_any (w : World) (x : Sv) (m : Nat) (hx : x.Num w (limbs m)) (hm : m < 18446744073709551616) :
    Calls Tryz.prog 156 #[.slice x.A x.n x.c] w fun e w' => e = .returned (.tuple #[.int .u64 m, .bool true]) ∧ Gr w w' := by
  have hl2 : (limbs m).length ≤ 2 := limbs_len_le (by rw [B32_eq]; exact hm)
  have H1 := Lib.hid (rmake_any w x _ hx (Nat.le_trans hl2 (by decide)))
  rw [val_limbs] at H1
  clear hx
  go_enter Tryz.func156, Tryz.ntmps156
  go_wp2_with fail
  go_at_call 117
  refine H1.out.mono ?_
  rintro e w1 ⟨u, rfl, hu, G1⟩
  obtain ⟨A, n, c⟩ := u
  have hn := hu.len
  simp only at hn
  have HU := Lib.hid hu
  have HG1 := Lib.hid G1
  have HN := Lib.hid hn
  rw [hn] at hl2
  clear hu G1 H1 hn
  simp only [Sv.v] at *
  rcases (show n = 0 ∨ n = 1 ∨ n = 2 by omega) with rfl | rfl | rfl
  · have HE : Hid (m = 0) := limbs_len0.1 HN.out
    go_wp2
    go_returns
    exact ⟨by rw [HE.out]; rfl, HG1.out⟩
  · obtain ⟨p, ad, hp, hp9, hA, hb, d⟩ := HU.out.at (i := 0) Nat.one_pos
    simp only at hA
    subst hA
    have HE : Hid (m = p) := by
      have h := val_limbs m
      match hh : limbs m, HN.out with
      | [z], _ =>
        rw [hh] at hp h
        obtain rfl : z = p := by simpa using hp
        rw [← h]
        exact (show val [z] = z by simp [val])
    rw [add_zero] at d
    clear hp hb
    rw [B32_eq] at hp9
    go_wp2
    go_returns
    exact ⟨by rw [HE.out]; rfl, HG1.out⟩
  · obtain ⟨p, ad, hp, hp9, hA, hb, d⟩ := HU.out.at (i := 0) (Nat.lt_trans Nat.one_pos (Nat.lt_succ_self _))
    obtain ⟨q, ad2, hq, hq9, hA2, hb2, d'⟩ := HU.out.at (i := 1) (Nat.lt_succ_self _)
    simp only at hA hA2
    subst hA
    injection hA2 with hA2
    subst hA2
    have HE : Hid (m = p + B32 * q) := by
      have h := val_limbs m
      match hh : limbs m, HN.out with
      | [z, y], _ =>
        rw [hh] at hp hq h
        obtain rfl : z = p := by simpa using hp
        obtain rfl : y = q := by simpa using hq
        rw [← h]
        exact (show val [z, y] = z + B32 * y by simp [val])
    rw [add_zero] at d
    have d2 : w1.drew.cell? ⟨ad.block, ad.off + 1, none⟩ = some (.int .u32 (q : Int)) := d'
    have d1 : w1.drew.cell? ad = some (.int .u32 (p : Int)) := d
    clear hp hq hb hb2 d'
    rw [B32_eq] at hp9 hq9
    have E0 := Lib.hid (or_top hp9 hq9)
    go_wp2
    go_region
    all_goals go_wp2
    all_goals go_returns
    all_goals exact ⟨by rw [HE.out, ← E0.out]; rfl, HG1.out.drew⟩
end Go.Proofs.YtcmfepaffhnemaaGreatDoor

set_option linter.unusedVariables false
namespace Go.Proofs.YtcmfepaffhnemaaGreatDoor
open Go.RowKit

attribute [local go_sem] Oper.semAt_some

set_option maxRecDepth 100000 in
set_option maxHeartbeats 2000000 in
theorem rdiv_any (w : World) (x y : Sv) (a b : Nat) (hx : x.Num w (limbs a)) (hy : y.Num w (limbs b)) (ha : a < 18446744073709551616) (hb0 : 0 < b) (hb : b < 18446744073709551616) :
    Calls Tryz.prog 121 #[.slice x.A x.n x.c, .slice y.A y.n y.c] w fun e w' => ∃ p q : Sv, e = .returned (.tuple #[p.v, q.v, .int .i64 0]) ∧ p.Num w' (limbs (a / b)) ∧ q.Num w' (limbs (a % b)) ∧ Gr w w' := by
  have H1 := Lib.hid (ruint_any w x a hx ha)
  have HY := Lib.hid hy
  have hbd : ((b : Int) == 0) = false := by simp; omega
  have hbd2 : ¬ (b : Int) = 0 := by omega
  have hbd3 : ¬ b = 0 := by omega
  have hq : a / b < 18446744073709551616 := Nat.lt_of_le_of_lt (Nat.div_le_self a b) ha
  have hr : a % b < 18446744073709551616 := Nat.lt_of_le_of_lt (Nat.mod_le a b) ha
  have E1 : (a : Int) / (b : Int) = ((a / b : Nat) : Int) := (Int.natCast_ediv a b).symm
  have E2 : (a : Int) % (b : Int) = ((a % b : Nat) : Int) := (Int.natCast_emod a b).symm
  have E3 := tdiv_nat a b
  have E4 := tmod_nat a b
  have HD1 := Lib.hid (fun W => rnof_any W (a / b) hq)
  have HD2 := Lib.hid (fun W => rnof_any W (a % b) hr)
  generalize a / b = qv at *
  generalize a % b = rv at *
  have E5 : IntKind.u64.wrap (qv : Int) = (qv : Int) := IntWalk.u64_in _ (by omega)
  clear hx hy
  go_enter Tryz.func121, Tryz.ntmps121
  go_wp2_with fail
  go_at_call 156
  refine H1.out.mono ?_
  rintro e w1 ⟨rfl, G1⟩
  have HG1 := Lib.hid G1
  have H2 := Lib.hid (ruint_any w1 y b (HY.out.gr G1) hb)
  clear G1 H1
  go_wp2_with fail
  go_at_call 156
  refine H2.out.mono ?_
  rintro e w2 ⟨rfl, G2⟩
  have HG2 := Lib.hid (HG1.out.trans G2)
  clear G2 H2 HG1 HY
  go_wp2_with fail
  first | (go_region_held3 (fun W => True) (first | go_keep | trivial) (first | (go_at_call 83; refine (HD2.out w3).mono ?_; rintro e w4 ⟨v, rfl, hv, G4⟩; have HV := Lib.hid hv; have HU4 := Lib.hid (HU.out.gr G4); have HG4 := Lib.hid (HG3.out.trans G4); clear hv G4) | (go_at_call 83; refine (HD1.out _).mono ?_; rintro e w3 ⟨u, rfl, hu, G3⟩; have HU := Lib.hid hu; have HG3 := Lib.hid (HG2.out.drew.trans G3); clear hu G3))) | fail
  go_wp2
  go_returns
  exact ⟨u, v, rfl, HU4.out, HV.out, HG4.out⟩

theorem num_unique {w : World} {x : Sv} {l l' : List Nat} (h : x.Num w l) (h' : x.Num w l') : l = l' := by
  apply List.ext_getElem?
  intro i
  rcases Nat.lt_or_ge i x.n with hi | hi
  · obtain ⟨y, ad, hy, _, hA, _, hc⟩ := h.at hi
    obtain ⟨z, ad', hz, _, hA', _, hc'⟩ := h'.at hi
    rw [hA] at hA'
    injection hA' with hA'
    subst hA'
    rw [hc] at hc'
    simp only [Option.some.injEq, Value.int.injEq, true_and] at hc'
    rw [hy, hz]
    exact congrArg some (by omega)
  · rw [List.getElem?_eq_none (by rw [h.len]; exact hi), List.getElem?_eq_none (by rw [h'.len]; exact hi)]
open Classical in
/-- The number that a slice holds. -/
noncomputable def numOf (w : World) (v : Value) : Nat := if h : ∃ m, ∃ x : Sv, v = x.v ∧ x.Num w (limbs m) then Classical.choose h else 0
theorem numOf_eq {w : World} {x : Sv} {m : Nat} (h : x.Num w (limbs m)) : numOf w x.v = m := by
  have he : ∃ m, ∃ y : Sv, x.v = y.v ∧ y.Num w (limbs m) := ⟨m, x, rfl, h⟩
  unfold numOf
  rw [dif_pos he]
  obtain ⟨y, hy, hn⟩ := Classical.choose_spec he
  obtain ⟨A, n, c⟩ := x
  obtain ⟨B, k, d⟩ := y
  simp only [Sv.v, Value.slice.injEq] at hy
  obtain ⟨rfl, rfl, rfl⟩ := hy
  exact limbs_inj (num_unique hn h)

set_option maxRecDepth 100000 in
set_option maxHeartbeats 2000000 in
theorem rgcd_any (w : World) (x y : Sv) (a b : Nat) (hx : x.Num w (limbs a)) (hy : y.Num w (limbs b)) (ha : a < 18446744073709551616) (hb : b < 18446744073709551616) :
    Calls Tryz.prog 120 #[.slice x.A x.n x.c, .slice y.A y.n y.c] w fun e w' => ∃ p : Sv, e = .returned p.v ∧ p.Num w' (limbs (Nat.gcd a b)) ∧ Gr w w' := by
  have hl : ∀ n, n < 18446744073709551616 → (limbs n).length ≤ 1000000 := fun n h => Nat.le_trans (limbs_len_le (k := 2) (by rw [B32_eq]; exact h)) (by decide)
  have H1 := Lib.hid (rmake_any w x _ hx (hl a ha))
  rw [val_limbs] at H1
  have HY := Lib.hid hy
  have HLB := Lib.hid (hl b hb)
  clear hx hy hl
  go_enter Tryz.func120, Tryz.ntmps120
  go_wp2_with fail
  go_at_call 117
  refine H1.out.mono ?_
  rintro e w1 ⟨u, rfl, hu, G1⟩
  have HU := Lib.hid hu
  have HG1 := Lib.hid G1
  have H2 := Lib.hid (rmake_any w1 y _ (HY.out.gr G1) HLB.out)
  rw [val_limbs] at H2
  clear hu G1 H1 HY
  go_wp2_with fail
  go_at_call 117
  refine H2.out.mono ?_
  rintro e w2 ⟨v, rfl, hv, G2⟩
  have HG2 := Lib.hid (HG1.out.trans G2)
  have HU2 := Lib.hid (HU.out.gr G2)
  have HV := Lib.hid hv
  clear hv G2 HG1 HU H2
  simp only [Sv.v] at *
  go_wp2
  go_loopw [0, 1] (fun s0 s1 wr => ∃ (p q : Sv) (m n : Nat), s0 = .slice p.A p.n p.c ∧ s1 = .slice q.A q.n q.c ∧ m < 18446744073709551616 ∧ n < 18446744073709551616 ∧ Hid (Nat.gcd m n = Nat.gcd a b) ∧ Hid ((limbs n).length = q.n) ∧ Hid (p.Num wr (limbs m)) ∧ Hid (q.Num wr (limbs n)) ∧ Hid (Gr w wr) ∧ Hid (n ≤ n)) (fun _ s1 wx => numOf wx s1)
  case atStart => exact ⟨u, v, a, b, rfl, rfl, ha, hb, rfl, HV.out.len, HU2, HV, HG2, Nat.le_refl _⟩
  case round =>
    obtain ⟨p, q, m, n, rfl, rfl, hm, hn, hgc, hln, hP, hQ, hG, _⟩ := hrel
    by_cases h0 : n = 0
    · have hq1 : ¬ 0 < q.n := by
        have : q.n = 0 := by rw [← hln.out, h0, limbs_zero]; rfl
        omega
      have hq0 : decide ((0 : Int) < q.n) = false := by simp; omega
      have hgg : Hid (Nat.gcd a b = m) := by rw [← hgc.out, h0]; exact Nat.gcd_zero_right m
      clear h0
      go_wp2
      go_ret
      exact ⟨p, rfl, by rw [hgg.out]; exact hP.out, hG.out⟩
    · have hq1 : 0 < q.n := by
        have : q.n ≠ 0 := by rw [← hln.out]; exact fun e => h0 (limbs_len0.1 e)
        omega
      have hq0 : decide ((0 : Int) < q.n) = true := by simp; omega
      have HD := Lib.hid (rdiv_any wr p q m n hP.out hQ.out hm (by omega) hn)
      have hmn : m % n < n := Nat.mod_lt _ (by omega)
      have HN : Hid (Nat.gcd n (m % n) = Nat.gcd a b) := by rw [← hgc.out, Nat.gcd_comm m n, Nat.gcd_rec n m, Nat.gcd_comm]; exact rfl
      have HM := Lib.hid (numOf_eq hQ.out)
      simp only [Sv.v] at HM
      generalize m % n = rr at *
      go_wp2_with fail
      go_at_call 121
      refine HD.out.mono ?_
      rintro e w3 ⟨z, r, rfl, hz, hr, G3⟩
      have HQ3 := Lib.hid (hQ.out.gr G3)
      have HR := Lib.hid hr
      have HG3 := Lib.hid (hG.out.trans G3)
      have HM2 := Lib.hid (numOf_eq hr)
      simp only [Sv.v] at HM2
      clear hz hr G3 HD
      simp only [Sv.v]
      go_wp2
      go_roundw
      case rel => exact ⟨q, r, n, rr, rfl, rfl, hn, by omega, HN, HR.out.len, HQ3, HR, HG3, Nat.le_refl _⟩
      case measure =>
        rw [HM.out, HM2.out]
        exact hmn
end Go.Proofs.YtcmfepaffhnemaaGreatDoor

set_option linter.unusedVariables false
namespace Go.Proofs.YtcmfepaffhnemaaGreatDoor
open Go.RowKit

attribute [local go_sem] Oper.semAt_some

/-- A denominator; 1 for none. -/
def orOne (m : Nat) : Nat := if m = 0 then 1 else m
theorem un_or (q : Q) : q.un = orOne q.den := rfl

set_option maxRecDepth 100000 in
set_option maxHeartbeats 1000000 in
theorem rimake_any (w : World) (s : Bool) (x : Sv) (a : Nat) (hx : x.Num w (limbs a)) (ha : (limbs a).length ≤ 1000000) :
    Calls Tryz.prog 82 #[.bool s, .slice x.A x.n x.c] w fun e w' => ∃ r : Iv, e = .returned r.v ∧ r.Is w' (s && decide (0 < a)) a ∧ Gr w w' := by
  have b1 := Bk.made w 110 #[.bool false, .slice none 0 0]
  have HG1 := Lib.hid ((Gr.refl w).alloc (.cells #[.bool false, .slice none 0 0] 110))
  have HB := Lib.hid b1
  have H1 := Lib.hid (rmake_any _ x _ (hx.gr HG1.out) ha)
  rw [val_limbs] at H1
  clear hx ha b1
  go_enter Tryz.func82, Tryz.ntmps82
  go_wp2_with fail
  refine H1.out.mono ?_
  rintro e w1 ⟨u, rfl, hu, G1⟩
  have HU := Lib.hid hu
  have HG2 := Lib.hid (HG1.out.trans G1)
  have HB2 := Lib.hid (G1.bk HB.out)
  clear hu G1 H1 HB
  generalize hpe : w.heap.size = p at *
  have HPE := Lib.hid hpe
  clear hpe
  obtain ⟨A, n, c⟩ := u
  have HN := Lib.hid HU.out.len
  simp only [Sv.v] at *
  obtain ⟨q, hq⟩ : ∃ q, q = (s && decide (0 < a)) := ⟨_, rfl⟩
  have HQ := Lib.hid hq
  have hqn : q = (s && decide ((0 : Int) < n)) := by
    rw [hq]
    congr 1
    by_cases h : a = 0
    · have : n = 0 := by rw [← HN.out, h, limbs_zero]; rfl
      simp [h, this]
    · have : n ≠ 0 := fun e => h (limbs_len0.1 (HN.out.trans e))
      rw [decide_eq_true (by omega), decide_eq_true (by omega)]
  obtain ⟨B5, F5⟩ := HB2.out.put2 (.bool q) (.slice A n c)
  obtain ⟨c0, c1⟩ := HB2.out.c2
  have fz := HB2.out.frozen
  have H5 := Lib.hid F5
  obtain ⟨d0, d1⟩ := B5.c2
  clear F5 B5 hq
  cases s
  · obtain rfl : q = false := by rw [hqn]; rfl
    clear hqn
    go_wp2
    generalize (w1.setCell ⟨p, 0, none⟩ (.bool false)).setCell ⟨p, 1, none⟩ (.slice A n c) = W5 at *
    (try simp only [Exit.inBlock, Exit.then])
    refine bodyPost_ret (by simp [results, Tryz.results82, go_sem, d0, d1]; try rfl) rfl ?_
    exact ⟨⟨false, ⟨A, n, c⟩⟩, rfl, ⟨HQ.out, HU.out.fr H5.out HB2.out (noLimb_int _ _ _ _)⟩, HG2.out.fr_at H5.out (Nat.le_of_eq HPE.out)⟩
  · by_cases hn : n = 0
    · subst hn
      have hd : decide ((0 : Int) < (0 : Nat)) = false := rfl
      obtain rfl : q = false := by rw [hqn, hd]; rfl
      clear hqn
      go_wp2
      generalize (w1.setCell ⟨p, 0, none⟩ (.bool false)).setCell ⟨p, 1, none⟩ (.slice A 0 c) = W5 at *
      (try simp only [Exit.inBlock, Exit.then])
      refine bodyPost_ret (by simp [results, Tryz.results82, go_sem, d0, d1]; try rfl) rfl ?_
      exact ⟨⟨false, ⟨A, 0, c⟩⟩, rfl, ⟨HQ.out, HU.out.fr H5.out HB2.out (noLimb_int _ _ _ _)⟩, HG2.out.fr_at H5.out (Nat.le_of_eq HPE.out)⟩
    · have hd : decide ((0 : Int) < n) = true := by simp; omega
      have hd2 : decide (0 < n) = true := by simp; omega
      obtain rfl : q = true := by rw [hqn, hd]; rfl
      clear hqn
      go_wp2
      generalize (w1.setCell ⟨p, 0, none⟩ (.bool true)).setCell ⟨p, 1, none⟩ (.slice A n c) = W5 at *
      (try simp only [Exit.inBlock, Exit.then])
      refine bodyPost_ret (by simp [results, Tryz.results82, go_sem, d0, d1]; try rfl) rfl ?_
      exact ⟨⟨true, ⟨A, n, c⟩⟩, rfl, ⟨HQ.out, HU.out.fr H5.out HB2.out (noLimb_int _ _ _ _)⟩, HG2.out.fr_at H5.out (Nat.le_of_eq HPE.out)⟩

set_option maxRecDepth 100000 in
set_option maxHeartbeats 4000000 in
theorem rone_any (w : World) (x : Sv) (m : Nat) (hx : x.Num w (limbs m)) (hm : (limbs m).length ≤ 1000000) :
    Calls Tryz.prog 77 #[.slice x.A x.n x.c] w fun e w' => ∃ y : Sv, e = .returned y.v ∧ y.Num w' (limbs (orOne m)) ∧ Gr w w' := by
  have H1 := Lib.hid (rmake_any w x _ hx hm)
  rw [val_limbs] at H1
  clear hx hm
  go_enter Tryz.func77, Tryz.ntmps77
  go_wp2_with fail
  go_at_call 117
  refine H1.out.mono ?_
  rintro e w1 ⟨u, rfl, hu, G1⟩
  obtain ⟨A, n, c⟩ := u
  have HN := Lib.hid hu.len
  have HU := Lib.hid hu
  have HG1 := Lib.hid G1
  clear hu G1 H1
  simp only [Sv.v] at *
  by_cases h0 : m = 0
  · have hn0 : n = 0 := by rw [← HN.out, h0, limbs_zero]; rfl
    subst hn0
    have HR : Hid (Lb (w1.alloc (.cells #[.int .u32 1] 211)) w1.heap.size [1]) := Bk.made w1 211 #[.int .u32 1]
    have HG := Lib.hid (HG1.out.alloc (.cells #[.int .u32 1] 211))
    have HE : Hid (orOne m = 1) := if_pos h0
    clear h0
    go_wp2
    go_ret
    exact ⟨⟨some ⟨w1.heap.size, 0, none⟩, 1, 1⟩, rfl, by rw [HE.out, limbs_one (by decide) (by decide)]; exact num_of_row HR.out (Lim.one (by decide)) rfl (by decide), HG.out⟩
  · have hn0 : n ≠ 0 := fun e => h0 (limbs_len0.1 (HN.out.trans e))
    have hnd : ((n : Int) == 0) = false := by simp; omega
    have HE : Hid (orOne m = m) := if_neg h0
    clear h0
    go_wp2
    go_ret
    exact ⟨⟨A, n, c⟩, rfl, by rw [HE.out]; exact HU.out, HG1.out⟩

set_option maxRecDepth 100000 in
set_option maxHeartbeats 4000000 in
theorem rquot_any (w : World) (s : Bool) (x y : Sv) (a b : Nat) (hx : x.Num w (limbs a)) (hy : y.Num w (limbs b)) (ha : a < 18446744073709551616) (hb0 : 0 < b) (hb : b < 18446744073709551616) :
    Calls Tryz.prog 79 #[.bool s, .slice x.A x.n x.c, .slice y.A y.n y.c] w fun e w' => ∃ r : Rv, e = .returned r.v ∧ r.Is w' (quot s a b) ∧ Gr w w' := by
  have b1 := Bk.made w 41 #[.bool false, .slice none 0 0, .slice none 0 0]
  have HG1 := Lib.hid ((Gr.refl w).alloc (.cells #[.bool false, .slice none 0 0, .slice none 0 0] 41))
  have HB := Lib.hid b1
  have HX := Lib.hid (hx.gr HG1.out)
  have HY := Lib.hid (hy.gr HG1.out)
  have H1 := Lib.hid (rgcd_any _ x y a b HX.out HY.out ha hb)
  have hg0 : 0 < Nat.gcd a b := Nat.gcd_pos_of_pos_right a hb0
  have hgb : Nat.gcd a b < 18446744073709551616 := Nat.lt_of_le_of_lt (Nat.le_of_dvd hb0 (Nat.gcd_dvd_right a b)) hb
  have HQ0 : Hid (quot s a b = ⟨s && decide (0 < a / Nat.gcd a b), a / Nat.gcd a b, den0 (b / Nat.gcd a b)⟩) := by
    unfold quot
    by_cases h0 : a = 0
    · rw [if_pos h0, h0, Nat.zero_div, Nat.gcd_zero_left, Nat.div_self hb0, decide_eq_false (by omega), Bool.and_false]
      exact rfl
    · have : 0 < a / Nat.gcd a b := Nat.div_pos (Nat.le_of_dvd (by omega) (Nat.gcd_dvd_left a b)) hg0
      rw [if_neg h0, decide_eq_true this, Bool.and_true]
      exact rfl
  clear hx hy b1
  go_enter Tryz.func79, Tryz.ntmps79
  go_wp2_with fail
  go_at_call 120
  refine H1.out.mono ?_
  rintro e w1 ⟨z, rfl, hz, G1⟩
  have HZ := Lib.hid hz
  have HG2 := Lib.hid (HG1.out.trans G1)
  have HX1 := Lib.hid (HX.out.gr G1)
  have HY1 := Lib.hid (HY.out.gr G1)
  have HB1 := Lib.hid (G1.bk HB.out)
  clear hz G1 H1 HX HY HB
  generalize Nat.gcd a b = g at *
  have H2 := Lib.hid (rdiv_any w1 x z a g HX1.out HZ.out ha hg0 hgb)
  go_wp2_with fail
  go_at_call 121
  refine H2.out.mono ?_
  rintro e w2 ⟨q1, r1, rfl, hq1, hr1, G2⟩
  have HN1 := Lib.hid hq1
  have HG3 := Lib.hid (HG2.out.trans G2)
  have HB2 := Lib.hid (G2.bk HB1.out)
  have H3 := Lib.hid (rdiv_any w2 y z b g (HY1.out.gr G2) (HZ.out.gr G2) hb hg0 hgb)
  clear hq1 hr1 G2 H2 HB1
  go_wp2_with fail
  go_at_call 121
  refine H3.out.mono ?_
  rintro e w4 ⟨q2, r2, rfl, hq2, hr2, G3⟩
  have HN2 := Lib.hid hq2
  have HN3 := Lib.hid (HN1.out.gr G3)
  have HG4 := Lib.hid (HG3.out.trans G3)
  have HBs := Lib.hid (G3.bk HB2.out)
  clear hq2 hr2 G3 H3 HB2 HN1
  generalize a / g = m at *
  generalize b / g = k at *
  generalize hpe : w.heap.size = p at *
  have HPE := Lib.hid hpe
  clear hpe
  obtain ⟨r0, r1', r2'⟩ := HBs.out.c3
  have fz := HBs.out.frozen
  obtain ⟨A, n, c⟩ := q1
  obtain ⟨B, l, d⟩ := q2
  have hn := Lib.hid HN3.out.len
  have hl := Lib.hid HN2.out.len
  simp only [Sv.v] at *
  -- the sign
  have key : ∀ (S : Bool) (K : Nat), S = (s && decide ((0 : Int) < n)) → K = den0 k → Hid (quot s a b = ⟨S, m, K⟩) := fun S K hS hK => by
    rw [HQ0.out, hS, hK]
    have : decide (0 < m) = decide ((0 : Int) < n) := by
      by_cases h : m = 0
      · have : n = 0 := by rw [← hn.out, h, limbs_zero]; rfl
        simp [h, this]
      · have : n ≠ 0 := fun e => h (limbs_len0.1 (hn.out.trans e))
        rw [decide_eq_true (by omega), decide_eq_true (by omega)]
    rw [this]
    exact rfl
  by_cases hl1 : l = 1
  · subst hl1
    obtain ⟨y, ad, hy, hy9, hA, hb', dd⟩ := HN2.out.at (i := 0) Nat.one_pos
    simp only at hA
    subst hA
    have hky : k = y := by
      have h := val_limbs k
      match hh : limbs k, hl.out with
      | [z], _ =>
        rw [hh] at hy h
        obtain rfl : z = y := by simpa using hy
        rw [← h]
        exact (show val [z] = z by simp [val])
    rw [add_zero] at dd
    clear hy hb' hy9
    by_cases hy1 : y = 1
    · have hk1 : Hid (0 = den0 k) := by unfold den0; rw [if_pos (hky.trans hy1)]; exact rfl
      subst hy1
      clear hky
      cases s
      · have HQQ := key false (0) (by rfl) (hk1.out)
        clear key
        obtain ⟨B5, F5⟩ := HBs.out.put3 (.bool false) (.slice A n c) (.slice none 0 0)
        have H5 := Lib.hid F5
        obtain ⟨d0, d1, d2⟩ := B5.c3
        clear F5 B5
        go_wp2
        generalize ((w4.setCell ⟨p, 0, none⟩ (.bool false)).setCell ⟨p, 1, none⟩ (.slice A n c)).setCell ⟨p, 2, none⟩ (.slice none 0 0) = W5 at *
        (try simp only [Exit.inBlock, Exit.then])
        refine bodyPost_ret (by simp [results, Tryz.results79, go_sem, d0, d1, d2]; try rfl) rfl ?_
        exact ⟨⟨false, ⟨A, n, c⟩, Sv.none⟩, rfl, by rw [HQQ.out]; exact ⟨rfl, HN3.out.fr H5.out HBs.out (noLimb_rat _ _ _ _ _ _ _), by rw [limbs_zero]; exact Sv.Num.none _⟩, HG4.out.fr_at H5.out (Nat.le_of_eq HPE.out)⟩
      · by_cases hn0 : n = 0
        · subst hn0
          have HQQ := key false (0) (by rfl) (hk1.out)
          clear key
          obtain ⟨B5, F5⟩ := HBs.out.put3 (.bool false) (.slice A 0 c) (.slice none 0 0)
          have H5 := Lib.hid F5
          obtain ⟨d0, d1, d2⟩ := B5.c3
          clear F5 B5
          go_wp2
          generalize ((w4.setCell ⟨p, 0, none⟩ (.bool false)).setCell ⟨p, 1, none⟩ (.slice A 0 c)).setCell ⟨p, 2, none⟩ (.slice none 0 0) = W5 at *
          (try simp only [Exit.inBlock, Exit.then])
          refine bodyPost_ret (by simp [results, Tryz.results79, go_sem, d0, d1, d2]; try rfl) rfl ?_
          exact ⟨⟨false, ⟨A, 0, c⟩, Sv.none⟩, rfl, by rw [HQQ.out]; exact ⟨rfl, HN3.out.fr H5.out HBs.out (noLimb_rat _ _ _ _ _ _ _), by rw [limbs_zero]; exact Sv.Num.none _⟩, HG4.out.fr_at H5.out (Nat.le_of_eq HPE.out)⟩
        · have hn1 : decide ((0 : Int) < n) = true := by simp; omega
          have hn2 : decide (0 < n) = true := by simp; omega
          have hn3 : 0 < n := by omega
          have HQQ := key true (0) (by rw [hn1]; rfl) (hk1.out)
          clear key
          obtain ⟨B5, F5⟩ := HBs.out.put3 (.bool true) (.slice A n c) (.slice none 0 0)
          have H5 := Lib.hid F5
          obtain ⟨d0, d1, d2⟩ := B5.c3
          clear F5 B5
          go_wp2
          generalize ((w4.setCell ⟨p, 0, none⟩ (.bool true)).setCell ⟨p, 1, none⟩ (.slice A n c)).setCell ⟨p, 2, none⟩ (.slice none 0 0) = W5 at *
          (try simp only [Exit.inBlock, Exit.then])
          refine bodyPost_ret (by simp [results, Tryz.results79, go_sem, d0, d1, d2]; try rfl) rfl ?_
          exact ⟨⟨true, ⟨A, n, c⟩, Sv.none⟩, rfl, by rw [HQQ.out]; exact ⟨rfl, HN3.out.fr H5.out HBs.out (noLimb_rat _ _ _ _ _ _ _), by rw [limbs_zero]; exact Sv.Num.none _⟩, HG4.out.fr_at H5.out (Nat.le_of_eq HPE.out)⟩
    · have hyd : ((y : Int) == 1) = false := by simp; omega
      have hk1 : Hid (k = den0 k) := by unfold den0; rw [if_neg (by rw [hky]; exact hy1)]; exact rfl
      clear hky
      cases s
      · have HQQ := key false (k) (by rfl) (hk1.out)
        clear key
        obtain ⟨B5, F5⟩ := HBs.out.put3 (.bool false) (.slice A n c) (.slice (some ad) 1 d)
        have H5 := Lib.hid F5
        obtain ⟨d0, d1, d2⟩ := B5.c3
        clear F5 B5
        go_wp2
        generalize ((w4.setCell ⟨p, 0, none⟩ (.bool false)).setCell ⟨p, 1, none⟩ (.slice A n c)).setCell ⟨p, 2, none⟩ (.slice (some ad) 1 d) = W5 at *
        (try simp only [Exit.inBlock, Exit.then])
        refine bodyPost_ret (by simp [results, Tryz.results79, go_sem, d0, d1, d2]; try rfl) rfl ?_
        exact ⟨⟨false, ⟨A, n, c⟩, ⟨some ad, 1, d⟩⟩, rfl, by rw [HQQ.out]; exact ⟨rfl, HN3.out.fr H5.out HBs.out (noLimb_rat _ _ _ _ _ _ _), HN2.out.fr H5.out HBs.out (noLimb_rat _ _ _ _ _ _ _)⟩, HG4.out.fr_at H5.out (Nat.le_of_eq HPE.out)⟩
      · by_cases hn0 : n = 0
        · subst hn0
          have HQQ := key false (k) (by rfl) (hk1.out)
          clear key
          obtain ⟨B5, F5⟩ := HBs.out.put3 (.bool false) (.slice A 0 c) (.slice (some ad) 1 d)
          have H5 := Lib.hid F5
          obtain ⟨d0, d1, d2⟩ := B5.c3
          clear F5 B5
          go_wp2
          generalize ((w4.setCell ⟨p, 0, none⟩ (.bool false)).setCell ⟨p, 1, none⟩ (.slice A 0 c)).setCell ⟨p, 2, none⟩ (.slice (some ad) 1 d) = W5 at *
          (try simp only [Exit.inBlock, Exit.then])
          refine bodyPost_ret (by simp [results, Tryz.results79, go_sem, d0, d1, d2]; try rfl) rfl ?_
          exact ⟨⟨false, ⟨A, 0, c⟩, ⟨some ad, 1, d⟩⟩, rfl, by rw [HQQ.out]; exact ⟨rfl, HN3.out.fr H5.out HBs.out (noLimb_rat _ _ _ _ _ _ _), HN2.out.fr H5.out HBs.out (noLimb_rat _ _ _ _ _ _ _)⟩, HG4.out.fr_at H5.out (Nat.le_of_eq HPE.out)⟩
        · have hn1 : decide ((0 : Int) < n) = true := by simp; omega
          have hn2 : decide (0 < n) = true := by simp; omega
          have hn3 : 0 < n := by omega
          have HQQ := key true (k) (by rw [hn1]; rfl) (hk1.out)
          clear key
          obtain ⟨B5, F5⟩ := HBs.out.put3 (.bool true) (.slice A n c) (.slice (some ad) 1 d)
          have H5 := Lib.hid F5
          obtain ⟨d0, d1, d2⟩ := B5.c3
          clear F5 B5
          go_wp2
          generalize ((w4.setCell ⟨p, 0, none⟩ (.bool true)).setCell ⟨p, 1, none⟩ (.slice A n c)).setCell ⟨p, 2, none⟩ (.slice (some ad) 1 d) = W5 at *
          (try simp only [Exit.inBlock, Exit.then])
          refine bodyPost_ret (by simp [results, Tryz.results79, go_sem, d0, d1, d2]; try rfl) rfl ?_
          exact ⟨⟨true, ⟨A, n, c⟩, ⟨some ad, 1, d⟩⟩, rfl, by rw [HQQ.out]; exact ⟨rfl, HN3.out.fr H5.out HBs.out (noLimb_rat _ _ _ _ _ _ _), HN2.out.fr H5.out HBs.out (noLimb_rat _ _ _ _ _ _ _)⟩, HG4.out.fr_at H5.out (Nat.le_of_eq HPE.out)⟩
  · have hld : ((l : Int) == 1) = false := by simp; omega
    have hk1 : Hid (k = den0 k) := by
      unfold den0
      rw [if_neg fun e => hl1 (by rw [← hl.out, e, limbs_one (by decide) (by decide)]; rfl)]
      exact rfl
    cases s
    · have HQQ := key false (k) (by rfl) (hk1.out)
      clear key
      obtain ⟨B5, F5⟩ := HBs.out.put3 (.bool false) (.slice A n c) (.slice B l d)
      have H5 := Lib.hid F5
      obtain ⟨d0, d1, d2⟩ := B5.c3
      clear F5 B5
      go_wp2
      generalize ((w4.setCell ⟨p, 0, none⟩ (.bool false)).setCell ⟨p, 1, none⟩ (.slice A n c)).setCell ⟨p, 2, none⟩ (.slice B l d) = W5 at *
      (try simp only [Exit.inBlock, Exit.then])
      refine bodyPost_ret (by simp [results, Tryz.results79, go_sem, d0, d1, d2]; try rfl) rfl ?_
      exact ⟨⟨false, ⟨A, n, c⟩, ⟨B, l, d⟩⟩, rfl, by rw [HQQ.out]; exact ⟨rfl, HN3.out.fr H5.out HBs.out (noLimb_rat _ _ _ _ _ _ _), HN2.out.fr H5.out HBs.out (noLimb_rat _ _ _ _ _ _ _)⟩, HG4.out.fr_at H5.out (Nat.le_of_eq HPE.out)⟩
    · by_cases hn0 : n = 0
      · subst hn0
        have HQQ := key false (k) (by rfl) (hk1.out)
        clear key
        obtain ⟨B5, F5⟩ := HBs.out.put3 (.bool false) (.slice A 0 c) (.slice B l d)
        have H5 := Lib.hid F5
        obtain ⟨d0, d1, d2⟩ := B5.c3
        clear F5 B5
        go_wp2
        generalize ((w4.setCell ⟨p, 0, none⟩ (.bool false)).setCell ⟨p, 1, none⟩ (.slice A 0 c)).setCell ⟨p, 2, none⟩ (.slice B l d) = W5 at *
        (try simp only [Exit.inBlock, Exit.then])
        refine bodyPost_ret (by simp [results, Tryz.results79, go_sem, d0, d1, d2]; try rfl) rfl ?_
        exact ⟨⟨false, ⟨A, 0, c⟩, ⟨B, l, d⟩⟩, rfl, by rw [HQQ.out]; exact ⟨rfl, HN3.out.fr H5.out HBs.out (noLimb_rat _ _ _ _ _ _ _), HN2.out.fr H5.out HBs.out (noLimb_rat _ _ _ _ _ _ _)⟩, HG4.out.fr_at H5.out (Nat.le_of_eq HPE.out)⟩
      · have hn1 : decide ((0 : Int) < n) = true := by simp; omega
        have hn2 : decide (0 < n) = true := by simp; omega
        have hn3 : 0 < n := by omega
        have HQQ := key true (k) (by rw [hn1]; rfl) (hk1.out)
        clear key
        obtain ⟨B5, F5⟩ := HBs.out.put3 (.bool true) (.slice A n c) (.slice B l d)
        have H5 := Lib.hid F5
        obtain ⟨d0, d1, d2⟩ := B5.c3
        clear F5 B5
        go_wp2
        generalize ((w4.setCell ⟨p, 0, none⟩ (.bool true)).setCell ⟨p, 1, none⟩ (.slice A n c)).setCell ⟨p, 2, none⟩ (.slice B l d) = W5 at *
        (try simp only [Exit.inBlock, Exit.then])
        refine bodyPost_ret (by simp [results, Tryz.results79, go_sem, d0, d1, d2]; try rfl) rfl ?_
        exact ⟨⟨true, ⟨A, n, c⟩, ⟨B, l, d⟩⟩, rfl, by rw [HQQ.out]; exact ⟨rfl, HN3.out.fr H5.out HBs.out (noLimb_rat _ _ _ _ _ _ _), HN2.out.fr H5.out HBs.out (noLimb_rat _ _ _ _ _ _ _)⟩, HG4.out.fr_at H5.out (Nat.le_of_eq HPE.out)⟩
end Go.Proofs.YtcmfepaffhnemaaGreatDoor

set_option linter.unusedVariables false
namespace Go.Proofs.YtcmfepaffhnemaaGreatDoor
open Go.RowKit

attribute [local go_sem] Oper.semAt_some

set_option maxRecDepth 100000 in
set_option maxHeartbeats 4000000 in
theorem req_any (w : World) (x y : Sv) (m n : Nat) (hx : x.Num w (limbs m)) (hy : y.Num w (limbs n)) :
    Calls Tryz.prog 115 #[.slice x.A x.n x.c, .slice y.A y.n y.c] w fun e w' => e = .returned (.bool (decide (m = n))) ∧ Gr w w' := by
  obtain ⟨A, k, c⟩ := x
  obtain ⟨B, l, d⟩ := y
  have hk := hx.len
  have hl := hy.len
  have hk9 := hx.is.max
  have hkc := hx.is.cap
  simp only at hk hl hk9 hkc
  have HX := Lib.hid hx
  have HY := Lib.hid hy
  by_cases hkl : k = l
  · subst hkl
    have hnn : ((k : Int) != k) = false := by simp
    have HK := Lib.hid hk
    have HL := Lib.hid hl
    clear hx hy hk hl
    simp only
    go_enter Tryz.func115, Tryz.ntmps115
    go_wp2
    go_loopw [5] (fun i wr => ∃ t : Nat, i = .int .i64 t ∧ t ≤ k ∧ Hid ((limbs m).take t = (limbs n).take t) ∧ Hid (Gr w wr)) (fun i _ => k - (intOf i).toNat)
    case atStart => exact ⟨0, rfl, Nat.zero_le _, rfl, Gr.refl w⟩
    case round =>
      obtain ⟨t, rfl, ht, hT, hG⟩ := hrel
      by_cases htk : t < k
      · obtain ⟨p, ad, hp, hp9, hA, hb, d1⟩ := (HX.out.gr hG.out).at (i := t) htk
        obtain ⟨q, ad2, hq, hq9, hB, hb2, d2⟩ := (HY.out.gr hG.out).at (i := t) htk
        simp only at hA hB
        subst hA hB
        have e1 : wr.drew.cell? (ad.add t) = some (.int .u32 p) := d1
        have e2 : wr.drew.cell? (ad2.add t) = some (.int .u32 q) := d2
        have hG3 : Hid (Gr w wr.drew) := hG.out.drew
        by_cases hpq : p = q
        · subst hpq
          have HT : Hid ((limbs m).take (t + 1) = (limbs n).take (t + 1)) := by
            rw [List.take_add_one, List.take_add_one, hT.out, hp, hq]
            exact rfl
          clear hp hq hp9 hq9 hb hb2 hT
          go_wp2
          go_region
          all_goals go_wp2
          all_goals go_roundw
          all_goals first
            | exact ⟨t + 1, by go_num, by omega, HT, hG3⟩
            | (simp [intOf]; omega)
        · have hpd : ((p : Int) != q) = true := by simp; omega
          have HE : Hid (decide (m = n) = false) := by
            have h : ¬ m = n := fun e => by
              subst e
              rw [hp] at hq
              injection hq with hq
              exact hpq hq
            exact decide_eq_false h
          clear hp hq hp9 hq9 hb hb2 hT
          go_wp2
          go_region
          all_goals go_wp2
          all_goals go_ret
          all_goals exact ⟨by rw [HE.out]; rfl, hG3.out⟩
      · obtain rfl : t = k := by omega
        have HE : Hid (decide (m = n) = true) := by
          have h := hT.out
          rw [List.take_of_length_le (by rw [HK.out]; exact Nat.le_refl _), List.take_of_length_le (by rw [HL.out]; exact Nat.le_refl _)] at h
          exact decide_eq_true (limbs_inj h)
        clear hT
        go_wp2
        go_ret
        exact ⟨by rw [HE.out]; rfl, hG.out⟩
  · have hnn : ((k : Int) != l) = true := by simp; omega
    have HE : Hid (decide (m = n) = false) := by
      have h : ¬ m = n := fun e => hkl (by rw [← hk, ← hl, e])
      exact decide_eq_false h
    clear hx hy hk hl
    simp only
    go_enter Tryz.func115, Tryz.ntmps115
    go_wp2
    go_ret
    exact ⟨by rw [HE.out]; rfl, Gr.refl w⟩

set_option maxRecDepth 100000 in
set_option maxHeartbeats 4000000 in
theorem rsame_any (w : World) (a b : Rv) (x y : Q) (ha : a.Is w x) (hb : b.Is w y) :
    Calls Tryz.prog 75 #[a.v, b.v] w fun e w' => e = .returned (.bool (decide (x = y))) ∧ Gr w w' := by
  obtain ⟨B1, B2, G⟩ := made2 w 41 41 #[.bool a.neg, .slice a.num.A a.num.n a.num.c, .slice a.den.A a.den.n a.den.c] #[.bool b.neg, .slice b.num.A b.num.n b.num.c, .slice b.den.A b.den.n b.den.c]
  have HA := Lib.hid (ha.gr G)
  have HB := Lib.hid (hb.gr G)
  have HG := Lib.hid G
  have C1 := Lib.hid B1
  have C2 := Lib.hid B2
  obtain ⟨a0, a1, a2⟩ := B1.c3
  obtain ⟨b0, b1, b2⟩ := B2.c3
  have N1 := Lib.hid ha.neg
  have N2 := Lib.hid hb.neg
  have hE : Hid (decide (x = y) = (a.neg == b.neg && (decide (x.num = y.num) && decide (x.den = y.den)))) := by
    rw [N1.out, N2.out]
    exact Q.dec_eq x y
  have HE1 := Lib.hid (req_any _ a.num b.num _ _ HA.out.num HB.out.num)
  clear ha hb B1 B2 G
  simp only [Rv.v]
  cases hn : (a.neg == b.neg)
  · rw [hn] at hE
    go_enter Tryz.func75, Tryz.ntmps75
    go_wp2
    go_ret
    exact ⟨by rw [hE.out]; rfl, HG.out⟩
  · rw [hn] at hE
    go_enter Tryz.func75, Tryz.ntmps75
    go_wp2_with fail
    go_at_call 115
    refine HE1.out.mono ?_
    rintro e w1 ⟨rfl, G1⟩
    have HG1 := Lib.hid (HG.out.trans G1)
    have HE2 := Lib.hid (req_any w1 a.den b.den _ _ (HA.out.den.gr G1) (HB.out.den.gr G1))
    obtain ⟨f0, f1, f2⟩ := (G1.bk C1.out).c3
    obtain ⟨g0, g1, g2⟩ := (G1.bk C2.out).c3
    clear G1 HE1 a0 a1 a2 b0 b1 b2
    cases h1 : decide (x.num = y.num)
    · rw [h1] at hE
      go_wp2
      go_ret
      exact ⟨by rw [hE.out]; rfl, HG1.out⟩
    · rw [h1] at hE
      generalize decide (x.den = y.den) = d at *
      go_wp2_with fail
      go_at_call 115
      refine HE2.out.mono ?_
      rintro e w2 ⟨rfl, G2⟩
      have HG2 := Lib.hid (HG1.out.trans G2)
      clear G2 HE2
      go_wp2
      go_ret
      exact ⟨by rw [hE.out]; rfl, HG2.out⟩

end Go.Proofs.YtcmfepaffhnemaaGreatDoor

set_option linter.unusedVariables false
namespace Go.Proofs.YtcmfepaffhnemaaGreatDoor
open Go.RowKit

attribute [local go_sem] Oper.semAt_some

/-- The state of a product: the first i limbs of a are done; of limb i, k limbs of b. -/
structure RMulSt (a b o : List Nat) (i m : Nat) : Prop where
  len : o.length = m
  lim : Lim o
  sum : val o = val (a.take i) * val b
  zer : ∀ j, i + b.length ≤ j → j < m → o[j]? = some 0
theorem RMulSt.start (a b : List Nat) (m : Nat) : RMulSt a b (List.replicate m 0) 0 m :=
  ⟨by simp, Lim.zeros _, by rw [val_zeros]; simp [val], fun j _ hj => get_zeros hj⟩
structure RMulIn (a b o : List Nat) (i x k c m : Nat) : Prop where
  len : o.length = m
  lim : Lim o
  car : c < B32
  sum : val o + B32 ^ (i + k) * c = val (a.take i) * val b + B32 ^ i * (x * val (b.take k))
  zer : ∀ j, i + b.length ≤ j → j < m → o[j]? = some 0
theorem RMulSt.into {a b o : List Nat} {i m : Nat} (h : RMulSt a b o i m) (x : Nat) : RMulIn a b o i x 0 0 m :=
  ⟨h.len, h.lim, by decide, by rw [h.sum]; simp [val], h.zer⟩
theorem RMulIn.step {a b o : List Nat} {i x k c y z s m : Nat} (h : RMulIn a b o i x k c m) (hx : x < B32) (hb : Lim b) (hy : b[k]? = some y) (hz : o[i + k]? = some z) (hs : s = c + (x * y + z)) :
    RMulIn a b (o.set (i + k) (s % B32)) i x (k + 1) (s / B32) m := by
  have hk := (List.getElem?_eq_some_iff.1 hy).1
  have h1 : y < B32 := hb.at hy
  have h2 : z < B32 := h.lim.at hz
  have h3 := h.car
  have h4 : x * y ≤ (B32 - 1) * (B32 - 1) := Nat.mul_le_mul (by omega) (by omega)
  have h5 : s < B32 * B32 := by
    have : (B32 - 1) * (B32 - 1) = 18446744065119617025 := by decide
    have : B32 * B32 = 18446744073709551616 := by decide
    have := B32_eq
    omega
  refine ⟨by rw [List.length_set]; exact h.len, h.lim.set _ (Nat.mod_lt _ (by decide)), Nat.div_lt_of_lt_mul h5, ?_, fun j hj hm => by rw [get_set_ne (by omega)]; exact h.zer j hj hm⟩
  have e1 := val_set (s % B32) hz
  have e2 := h.sum
  have e3 := val_take_succ hy
  have e5 : B32 ^ (i + k) * (s % B32) + B32 ^ (i + (k + 1)) * (s / B32) = B32 ^ (i + k) * s := by
    rw [show i + (k + 1) = (i + k) + 1 by omega, Nat.pow_succ, Nat.mul_assoc, ← Nat.mul_add, Nat.mod_add_div]
  have e6 : B32 ^ (i + k) * s = B32 ^ (i + k) * c + B32 ^ (i + k) * (x * y) + B32 ^ (i + k) * z := by rw [hs, Nat.mul_add, Nat.mul_add, Nat.add_assoc]
  have e7 : B32 ^ i * (x * val (b.take (k + 1))) = B32 ^ i * (x * val (b.take k)) + B32 ^ (i + k) * (x * y) := by
    rw [e3, Nat.mul_add, Nat.mul_add, Nat.pow_add]
    congr 1
    simp only [Nat.mul_assoc, Nat.mul_left_comm, Nat.mul_comm]
  omega
theorem RMulIn.done {a b o : List Nat} {i x c m : Nat} (h : RMulIn a b o i x b.length c m) (ha : a[i]? = some x) (him : i + b.length < m) : RMulSt a b (o.set (i + b.length) c) (i + 1) m := by
  have e1 := val_set c (h.zer (i + b.length) (Nat.le_refl _) him)
  have e2 := h.sum
  rw [List.take_length] at e2
  refine ⟨by rw [List.length_set]; exact h.len, h.lim.set _ h.car, ?_, fun j hj hm => by rw [get_set_ne (by omega)]; exact h.zer j (by omega) hm⟩
  rw [val_take_succ ha, Nat.add_mul, Nat.mul_assoc]
  rw [Nat.mul_zero] at e1
  omega
theorem RMulSt.done {a b o : List Nat} {m : Nat} (h : RMulSt a b o a.length m) : val o = val a * val b := by
  rw [h.sum, List.take_length]


set_option maxRecDepth 100000 in
set_option maxHeartbeats 4000000 in
theorem rnmul_any (w : World) (x y : Sv) (la lb : List Nat) (hx : x.Num w la) (hy : y.Num w lb) (ha : la.length ≤ 400000) (hb : lb.length ≤ 400000) :
    Calls Tryz.prog 76 #[.slice x.A x.n x.c, .slice y.A y.n y.c] w fun e w' => ∃ z : Sv, e = .returned z.v ∧ z.Num w' (limbs (val la * val lb)) ∧ Gr w w' := by
  obtain ⟨A, n, c⟩ := x
  obtain ⟨B, m, d⟩ := y
  have HU2 := Lib.hid hx
  have HV := Lib.hid hy
  have HN := Lib.hid hx.len
  have HM := Lib.hid hy.len
  simp only at HN HM ⊢
  have hn9 : n ≤ 400000 := by rw [← HN.out]; exact ha
  have hm9 : m ≤ 400000 := by rw [← HM.out]; exact hb
  have hw0 : IntKind.i64.wrap ((n : Int) + m + 1) = (n : Int) + m + 1 := IntWalk.i64_in _ (by omega)
  have hmk := makeU (n + m + 1) (by omega) w
  rw [show (((n + m + 1 : Nat)) : Int) = (n : Int) + m + 1 by omega] at hmk
  have HR0 := Lib.hid (Lb.made w (n + m + 1))
  have HG4 : Hid (Gr w (w.alloc (.cells (Array.replicate (n + m + 1) (.int .u32 0)) 211))) := (Gr.refl w).alloc _
  have HS0 := Lib.hid (RMulSt.start la lb (n + m + 1))
  clear hx hy ha hb
  go_enter Tryz.func76, Tryz.ntmps76
  go_wp2
  clear hmk hw0
  generalize hge : w.heap.size = g at *
  have HGE := Lib.hid hge
  clear hge
  go_loopw [6] (fun i wr => ∃ (t : Nat) (o : List Nat), i = .int .i64 t ∧ t ≤ n ∧ Hid (RMulSt la lb o t (n + m + 1)) ∧ Hid (Lb wr g o) ∧ Hid (Gr w wr)) (fun i _ => n - (intOf i).toNat)
  case atStart => exact ⟨0, _, rfl, Nat.zero_le _, HS0, HR0, HG4⟩
  case round =>
    obtain ⟨t, o, rfl, ht, hS, hR, hG⟩ := hrel
    by_cases htn : t < n
    · obtain ⟨p, ad, hp, hp9, hAe, hbl, d1⟩ := (HU2.out.gr hG.out).at (i := t) htn
      simp only at hAe
      subst hAe
      have HP := Lib.hid hp
      have HI0 := Lib.hid (hS.out.into p)
      have HP9 := Lib.hid hp9
      clear hp hp9 hbl hS d1
      go_wp2
      go_loopw [7, 8] (fun s8 i wx => (∃ (k cr : Nat) (o : List Nat), i = .int .i64 k ∧ s8 = .int .u64 cr ∧ k ≤ m ∧ Hid (RMulIn la lb o t p k cr (n + m + 1)) ∧ Hid (Lb wx g o) ∧ Hid (Gr w wx)) ∨ (∃ o : List Nat, i = .int .i64 ((m : Int) + 1) ∧ Hid (RMulSt la lb o (t + 1) (n + m + 1)) ∧ Hid (Lb wx g o) ∧ Hid (Gr w wx))) (fun _ i _ => m + 1 - (intOf i).toNat)
      case atStart => exact Or.inl ⟨0, 0, _, rfl, rfl, Nat.zero_le _, HI0, hR, hG⟩
      case round =>
        rcases hrel with ⟨k, cr, o2, rfl, rfl, hk, hS2, hR2, hG2⟩ | ⟨o2, rfl, hS2, hR2, hG2⟩
        · have fz := hR2.out.fz
          have hcr : cr < 4294967296 := hS2.out.car
          have hlen2 : o2.length = n + m + 1 := hS2.out.len
          obtain ⟨z, hz⟩ : ∃ z, o2[t + k]? = some z := ⟨_, List.getElem?_eq_getElem (by omega)⟩
          have q0 := hR2.out.cell hz
          obtain ⟨p', ad', hp', hp9', hA', _, d1⟩ := (HU2.out.gr hG2.out).at (i := t) htn
          simp only at hA'
          injection hA' with hA'
          subst hA'
          obtain rfl : p = p' := by have h := HP.out; rw [hp'] at h; injection h with h; exact h.symm
          have HL := Lib.hid (limb_any wr.drew ⟨B, m, d⟩ lb k (HV.out.gr hG2.out.drew) (by omega))
          simp only at HL
          have hyb := lim0_lt HV.out.lim k
          have HZ9 := Lib.hid (hS2.out.lim.at hz)
          have HY9 := Lib.hid hyb
          obtain ⟨s, hs⟩ : ∃ s, s = cr + (p * lim0 lb k + z) := ⟨_, rfl⟩
          have HX := Lib.hid (mul_step HP9.out hyb (hS2.out.lim.at hz) hcr hs)
          obtain ⟨lo, hlo⟩ : ∃ lo, lo = s % B32 := ⟨_, rfl⟩
          obtain ⟨hi, hhi⟩ : ∃ hi, hi = s / B32 := ⟨_, rfl⟩
          have E1 : Hid ((s : Int) % 4294967296 = lo) := by rw [B32_eq] at hlo; exact (by omega : (s : Int) % 4294967296 = lo)
          have E2 : Hid ((s : Int) / 4294967296 = hi) := by rw [B32_eq] at hhi; exact (by omega : (s : Int) / 4294967296 = hi)
          have HL2 : Hid (Lb (wr.drew.setCell ⟨g, t + k, none⟩ (lv lo)) g (o2.set (t + k) lo)) := Lb.put (w := wr.drew) hR2.out (t + k) lo
          have HG5 := Lib.hid (hG2.out.drew.set (p := ⟨g, t + k, none⟩) (Nat.le_of_eq HGE.out) (lv lo))
          have HFIN : Hid ((k < m → RMulIn la lb (o2.set (t + k) lo) t p (k + 1) hi (n + m + 1)) ∧ (k = m → RMulSt la lb (o2.set (t + k) lo) (t + 1) (n + m + 1))) := by
            refine ⟨fun hkm => ?_, fun hkm => ?_⟩
            · obtain ⟨q, hq⟩ : ∃ q, lb[k]? = some q := ⟨_, List.getElem?_eq_getElem (by rw [HM.out]; exact hkm)⟩
              rw [hlo, hhi]
              exact hS2.out.step HP9.out HV.out.lim hq hz (by rw [hs, lim0_at hq])
            · subst hkm
              have h0 := hS2.out.zer (t + lb.length) (Nat.le_refl _) (by rw [HM.out]; omega)
              rw [HM.out, hz] at h0
              injection h0 with h0
              have hy0 : lim0 lb k = 0 := lim0_past (by rw [HM.out]; exact Nat.le_refl _)
              have hsc : lo = cr := by
                rw [hlo, show s = cr by rw [hs, hy0, h0, Nat.mul_zero]; rfl]
                exact Nat.mod_eq_of_lt hcr
              rw [hsc]
              have h1 := hS2.out
              rw [← HM.out] at h1 ⊢
              have h2 := h1.done HP.out (by rw [HM.out]; omega)
              rw [HM.out] at h2 ⊢
              exact h2
          have HHI : Hid (k = m → True) := fun _ => trivial
          clear hz hlen2 hp' hp9' hs hlo hhi hyb hR2 hS2
          have hwk : decide ((k : Int) ≤ m) = true := by simp; omega
          have hwk2 : IntKind.i64.wrap ((t : Int) + (k : Int)) = (t : Int) + (k : Int) := IntWalk.i64_in _ (by omega)
          have hbi1 : (0 : Int) ≤ (t : Int) + (k : Int) := by omega
          have hbi2 : (t : Int) + (k : Int) < (n : Int) + (m : Int) + 1 := by omega
          have hbi3 : ((t : Int) + (k : Int)).toNat = t + k := by omega
          generalize lim0 lb k = yk at *
          go_wp2_with fail
          first | (go_region_held3 (fun W => W.cell? (ad.add t) = some (.int .u32 (p : Int)) ∧ W.cell? ⟨g, t + k, none⟩ = some (.int .u32 (z : Int)) ∧ W = wr.drew) (first | go_keep | exact ⟨d1, q0, rfl⟩) (first | (go_at_call 116; refine HL.out.mono ?_; rintro e w5 ⟨rfl, rfl⟩))) | fail
          go_wp2
          go_roundw
          case rel =>
            rw [HX.out, E1.out, E2.out]
            rcases Nat.lt_or_ge k m with hkm | hkm
            · exact Or.inl ⟨k + 1, hi, _, by go_num, rfl, by omega, HFIN.out.1 hkm, HL2, HG5⟩
            · have hkm2 : k = m := by omega
              exact Or.inr ⟨_, by rw [hkm2], HFIN.out.2 hkm2, HL2, HG5⟩
          case measure => simp [intOf]; omega
        · have hwk : decide ((m : Int) + 1 ≤ m) = false := by simp; omega
          go_wp2
          go_roundw
          case rel => exact ⟨t + 1, o2, by go_num, by omega, hS2, hR2, hG2⟩
          case measure => simp [intOf]; omega
    · obtain rfl : t = n := by omega
      have e1 : val o = val la * val lb := by
        have h := hS.out
        rw [← HN.out] at h
        exact h.done
      have hlen : o.length = t + m + 1 := hS.out.len
      have HT := Lib.hid (rmake_any wr ⟨some ⟨g, 0, none⟩, t + m + 1, t + m + 1⟩ o (num_of_row hR.out hS.out.lim hlen (by omega)) (by omega))
      rw [e1] at HT
      clear e1 hlen
      go_wp2_with fail
      go_at_call 117
      refine HT.out.mono ?_
      rintro e w5 ⟨z, rfl, hz, G5⟩
      have HZ := Lib.hid hz
      have HG6 := Lib.hid (hG.out.trans G5)
      clear hz G5 HT
      go_wp2
      go_ret
      exact ⟨z, rfl, HZ.out, HG6.out⟩
end Go.Proofs.YtcmfepaffhnemaaGreatDoor

set_option linter.unusedVariables false
namespace Go.Proofs.YtcmfepaffhnemaaGreatDoor
open Go.RowKit

attribute [local go_sem] Oper.semAt_some

set_option maxRecDepth 100000 in
set_option maxHeartbeats 4000000 in
theorem risign_any (w : World) (s : Bool) (x : Sv) (m : Nat) (hx : x.Num w (limbs m)) (hm : (limbs m).length ≤ 1000000) :
    Calls Tryz.prog 114 #[.agg #[.bool s, .slice x.A x.n x.c]] w fun e w' => e = .returned (.int .i64 (isg s m)) ∧ Gr w w' := by
  have B1 := Bk.made w 110 #[.bool s, .slice x.A x.n x.c]
  have HG := Lib.hid ((Gr.refl w).alloc (.cells #[.bool s, .slice x.A x.n x.c] 110))
  have C1 := Lib.hid B1
  obtain ⟨a0, a1⟩ := B1.c2
  have HM := Lib.hid (rimake_any _ s x m (hx.gr HG.out) hm)
  clear hx hm B1
  go_enter Tryz.func114, Tryz.ntmps114
  go_wp2_with fail
  go_at_call 82
  refine HM.out.mono ?_
  rintro e w1 ⟨i, rfl, hi, G1⟩
  have C2 := Lib.hid (G1.bk C1.out)
  obtain ⟨r0, r1⟩ := C2.out.c2
  have fz := C2.out.frozen
  have HG1 := Lib.hid (HG.out.trans G1)
  obtain ⟨D1, F1⟩ := C2.out.put2 (.bool i.neg) (.slice i.mag.A i.mag.n i.mag.c)
  obtain ⟨d0, d1⟩ := D1.c2
  have HG2 := Lib.hid (HG1.out.fr_at F1 (Nat.le_refl _))
  have HL := Lib.hid hi.mag.len
  have HN := Lib.hid hi.neg
  clear hi G1 HM C1 D1 F1 a0 a1
  by_cases h0 : m = 0
  · have hl : ((i.mag.n : Int) == 0) = true := by
      have : i.mag.n = 0 := by rw [← HL.out, h0, limbs_zero]; rfl
      simp [this]
    have HE : Hid (isg s m = 0) := by unfold isg; exact if_pos h0
    clear h0
    go_wp2
    go_ret
    exact ⟨by rw [HE.out]; rfl, HG2.out⟩
  · have hl : ((i.mag.n : Int) == 0) = false := by
      have : i.mag.n ≠ 0 := by rw [← HL.out]; exact fun e => h0 (limbs_len0.1 e)
      simp; omega
    have HE : Hid (isg s m = if i.neg then -1 else 1) := by
      unfold isg
      rw [HN.out, if_neg h0, decide_eq_true (by omega), Bool.and_true]
      exact rfl
    clear h0
    cases hs : i.neg
    · rw [hs] at d0 HE
      go_wp2
      go_ret
      exact ⟨by rw [HE.out]; rfl, by rw [hs] at HG2; exact HG2.out⟩
    · rw [hs] at d0 HE
      go_wp2
      go_ret
      exact ⟨by rw [HE.out]; rfl, by rw [hs] at HG2; exact HG2.out⟩

set_option maxRecDepth 100000 in
set_option maxHeartbeats 4000000 in
theorem rsign_any (w : World) (a : Rv) (q : Q) (ha : a.Is w q) (hl : (limbs q.num).length ≤ 1000000) :
    Calls Tryz.prog 73 #[a.v] w fun e w' => e = .returned (.int .i64 (isg q.neg q.num)) ∧ Gr w w' := by
  have B1 := Bk.made w 41 #[.bool a.neg, .slice a.num.A a.num.n a.num.c, .slice a.den.A a.den.n a.den.c]
  have HG := Lib.hid ((Gr.refl w).alloc (.cells #[.bool a.neg, .slice a.num.A a.num.n a.num.c, .slice a.den.A a.den.n a.den.c] 41))
  obtain ⟨a0, a1, a2⟩ := B1.c3
  have HS := Lib.hid (risign_any _ a.neg a.num _ (ha.num.gr HG.out) hl)
  rw [ha.neg] at HS
  have HN := Lib.hid ha.neg
  clear ha B1 hl
  simp only [Rv.v] at *
  go_enter Tryz.func73, Tryz.ntmps73
  go_wp2_with fail
  go_at_call 114
  rw [HN.out]
  refine HS.out.mono ?_
  rintro e w1 ⟨rfl, G1⟩
  have HG1 := Lib.hid (HG.out.trans (HN.out ▸ G1))
  clear G1
  go_wp2
  go_ret
  exact ⟨rfl, HG1.out⟩

set_option maxRecDepth 100000 in
set_option maxHeartbeats 4000000 in
theorem rcanon_any (w : World) (a : Rv) (q : Q) (ha : a.Is w q) (hl : q.num < 18446744073709551616) (hd : q.den < 18446744073709551616) :
    Calls Tryz.prog 80 #[a.v] w fun e w' => ∃ r : Rv, e = .returned r.v ∧ r.Is w' (quot q.neg q.num q.un) ∧ Gr w w' := by
  obtain ⟨B1, B2, G⟩ := made2 w 41 41 #[.bool a.neg, .slice a.num.A a.num.n a.num.c, .slice a.den.A a.den.n a.den.c] #[.bool false, .slice none 0 0, .slice none 0 0]
  have HA := Lib.hid (ha.gr G)
  have HG := Lib.hid G
  have hB1 := Lib.hid B1
  have hB2 := Lib.hid B2
  have HL := Lib.hid hl
  have HD : Hid (q.un < 18446744073709551616) := by
    have : q.un < 18446744073709551616 := by unfold Q.un; split <;> omega
    exact this
  have HLD : Hid ((limbs q.den).length ≤ 1000000) := Nat.le_trans (limbs_len_le (k := 2) (by rw [B32_eq]; exact hd)) (by decide)
  clear ha hl hd B1 B2 G
  simp only [Rv.v]
  go_enter Tryz.func80, Tryz.ntmps80
  go_wp2_with fail
  generalize hW : (w.alloc (.cells #[.bool a.neg, .slice a.num.A a.num.n a.num.c, .slice a.den.A a.den.n a.den.c] 41)).alloc (.cells #[.bool false, .slice none 0 0, .slice none 0 0] 41) = W at *
  clear hW
  have hpr : ¬ w.heap.size = w.heap.size + 1 := by omega
  have hle : Hid (w.heap.size ≤ w.heap.size + 1) := Nat.le_succ _
  generalize w.heap.size + 1 = r at *
  generalize hp : w.heap.size = p at *
  have hPE := Lib.hid hp
  clear hp
  have hpr2 : ¬ r = p := fun e => hpr e.symm
  obtain ⟨a0, a1, a2⟩ := hB1.out.c3
  have HU := Lib.hid (rone_any W.drew a.den _ (HA.out.den.gr (Gr.refl W).drew) HLD.out)
  rw [← un_or] at HU
  have HNN := Lib.hid HA.out.neg
  first | (go_region_held3 (fun W => W.cell? ⟨p, 0, none⟩ = some (.bool a.neg) ∧ W.cell? ⟨p, 1, none⟩ = some (.slice a.num.A a.num.n a.num.c) ∧ W.cell? ⟨p, 2, none⟩ = some (.slice a.den.A a.den.n a.den.c))
      (first | go_keep | exact ⟨hk.1, hk.2.1, hk.2.2⟩ | exact ⟨hj.1, hj.2.1, hj.2.2⟩)
      (first | (go_at_call 79; refine (HQ.out).mono ?_; rintro e w2 ⟨i, rfl, hi, G2⟩; have hE1 := Lib.hid (G2.bk hC1.out); have HBs := Lib.hid (G2.bk hC2.out); have HG2 := Lib.hid (HG1.out.trans G2); have hj := hE1.out.c3; obtain ⟨r0, r1, r2⟩ := HBs.out.c3; have fz := HBs.out.frozen; have HII := Lib.hid hi; clear hi G2) | (go_at_call 77; refine (HU.out).mono ?_; rintro e w1 ⟨y, rfl, hy, G1⟩; have hC1 := Lib.hid (G1.bk hB1.out); have hC2 := Lib.hid (G1.bk hB2.out); have HG1 := Lib.hid (HG.out.drew.trans G1); have hk := hC1.out.c3; have HQ := Lib.hid (rquot_any w1 a.neg a.num y _ _ ((HA.out.num.gr (Gr.refl W).drew).gr G1) hy HL.out q.un_pos HD.out); clear hy G1))) | fail
  obtain ⟨B5, F5⟩ := HBs.out.put3 (.bool i.neg) (.slice i.num.A i.num.n i.num.c) (.slice i.den.A i.den.n i.den.c)
  have H5 := Lib.hid F5
  obtain ⟨d0, d1, d2⟩ := B5.c3
  clear F5 B5
  go_wp2
  generalize ((w2.setCell ⟨r, 0, none⟩ (.bool i.neg)).setCell ⟨r, 1, none⟩ (.slice i.num.A i.num.n i.num.c)).setCell ⟨r, 2, none⟩ (.slice i.den.A i.den.n i.den.c) = W5 at *
  (try simp only [Exit.inBlock, Exit.then])
  refine bodyPost_ret (by simp [results, Tryz.results80, go_sem, d0, d1, d2]; try rfl) rfl ?_
  exact ⟨i, rfl, by rw [← HNN.out]; exact HII.out.fr H5.out HBs.out (noLimb_rat _ _ _ _ _ _ _), HG2.out.fr_at H5.out (by rw [hPE.out]; exact hle.out)⟩
end Go.Proofs.YtcmfepaffhnemaaGreatDoor

set_option linter.unusedVariables false
namespace Go.Proofs.YtcmfepaffhnemaaGreatDoor
open Go.RowKit

attribute [local go_sem] Oper.semAt_some

theorem quot_ref (w : World) (a b : Iv) (s t : Bool) (m n : Nat) (ha : a.Is w s m) (hb : b.Is w t n) (hm : m < 18446744073709551616) (hn0 : 0 < n) (hn : n < 18446744073709551616) :
    Calls Tryz.prog 79 #[.bool (a.neg != b.neg), .slice a.mag.A a.mag.n a.mag.c, .slice b.mag.A b.mag.n b.mag.c] w fun e w' => ∃ r : Rv, e = .returned r.v ∧ r.Is w' (quot (s != t) m n) ∧ Gr w w' := by
  rw [← ha.neg, ← hb.neg]
  exact rquot_any w _ a.mag b.mag m n ha.mag hb.mag hm hn0 hn

set_option maxRecDepth 100000 in
set_option maxHeartbeats 4000000 in
theorem riof_any (w : World) (x : Int) (h1 : -1000000000 ≤ x) (h2 : x ≤ 1000000000) :
    Calls Tryz.prog 50 #[.int .i64 x] w fun e w' => ∃ r : Iv, e = .returned r.v ∧ r.Is w' (decide (x < 0)) x.natAbs ∧ Gr w w' := by
  have b1 := Bk.made w 110 #[.bool false, .slice none 0 0]
  have HG1 := Lib.hid ((Gr.refl w).alloc (.cells #[.bool false, .slice none 0 0] 110))
  have HB := Lib.hid b1
  clear b1
  have HO := Lib.hid (fun W => rnof_any W x.natAbs (by omega))
  by_cases h0 : x < 0
  · have hd : decide (x < 0) = true := by simp [h0]
    rw [hd]
    obtain ⟨n, rfl⟩ : ∃ n : Nat, x = -(n : Int) := ⟨x.natAbs, by omega⟩
    rw [show (-(n : Int)).natAbs = n by omega] at *
    have HLN : Hid ((limbs n).length ≤ 1000000) := Nat.le_trans (limbs_len_le (k := 1) (by rw [Nat.pow_one, B32_eq]; omega)) (by decide)
    go_enter Tryz.func50, Tryz.ntmps50
    have hw : IntKind.u64.wrap (-IntKind.u64.wrap (-(n : Int))) = (n : Int) := by rw [IntKind.wrap_u64, IntKind.wrap_u64]; omega
    go_wp2_with fail
    go_at_call 83
    refine (HO.out _).mono ?_
    rintro e w1 ⟨z, rfl, hz, G1⟩
    have HG2 := Lib.hid (HG1.out.trans G1)
    have C2 := Lib.hid (G1.bk HB.out)
    have HM := Lib.hid (rimake_any w1 true z n hz HLN.out)
    clear hz G1 hw HB
    go_wp2_with fail
    go_at_call 82
    refine HM.out.mono ?_
    rintro e w2 ⟨i, rfl, hi, G2⟩
    have HII := Lib.hid hi
    have HG3 := Lib.hid (HG2.out.trans G2)
    have HBs := Lib.hid (G2.bk C2.out)
    obtain ⟨r0, r1⟩ := HBs.out.c2
    have fz := HBs.out.frozen
    clear hi G2 HM C2
    generalize hp : w.heap.size = r at *
    have hPE := Lib.hid hp
    clear hp
    obtain ⟨B5, F5⟩ := HBs.out.put2 (.bool i.neg) (.slice i.mag.A i.mag.n i.mag.c)
    have H5 := Lib.hid F5
    obtain ⟨d0, d1⟩ := B5.c2
    clear F5 B5
    go_wp2
    generalize (w2.setCell ⟨r, 0, none⟩ (.bool i.neg)).setCell ⟨r, 1, none⟩ (.slice i.mag.A i.mag.n i.mag.c) = W5 at *
    (try simp only [Exit.inBlock, Exit.then])
    refine bodyPost_ret (by simp [results, Tryz.results50, go_sem, d0, d1]; try rfl) rfl ?_
    exact ⟨i, rfl, ⟨by rw [HII.out.neg]; rw [decide_eq_true (by omega)]; rfl, HII.out.mag.fr H5.out HBs.out (noLimb_int _ _ _ _)⟩, HG3.out.fr_at H5.out (Nat.le_of_eq hPE.out)⟩
  · have hd : decide (x < 0) = false := by simp; omega
    rw [hd]
    obtain ⟨n, rfl⟩ : ∃ n : Nat, x = (n : Int) := ⟨x.natAbs, by omega⟩
    rw [show ((n : Int)).natAbs = n by omega] at *
    have HLN : Hid ((limbs n).length ≤ 1000000) := Nat.le_trans (limbs_len_le (k := 1) (by rw [Nat.pow_one, B32_eq]; omega)) (by decide)
    go_enter Tryz.func50, Tryz.ntmps50
    have hw : IntKind.u64.wrap (n : Int) = (n : Int) := by rw [IntKind.wrap_u64]; omega
    go_wp2_with fail
    go_at_call 83
    refine (HO.out _).mono ?_
    rintro e w1 ⟨z, rfl, hz, G1⟩
    have HG2 := Lib.hid (HG1.out.trans G1)
    have C2 := Lib.hid (G1.bk HB.out)
    have HM := Lib.hid (rimake_any w1 false z n hz HLN.out)
    clear hz G1 hw HB
    go_wp2_with fail
    go_at_call 82
    refine HM.out.mono ?_
    rintro e w2 ⟨i, rfl, hi, G2⟩
    have HII := Lib.hid hi
    have HG3 := Lib.hid (HG2.out.trans G2)
    have HBs := Lib.hid (G2.bk C2.out)
    obtain ⟨r0, r1⟩ := HBs.out.c2
    have fz := HBs.out.frozen
    clear hi G2 HM C2
    generalize hp : w.heap.size = r at *
    have hPE := Lib.hid hp
    clear hp
    obtain ⟨B5, F5⟩ := HBs.out.put2 (.bool i.neg) (.slice i.mag.A i.mag.n i.mag.c)
    have H5 := Lib.hid F5
    obtain ⟨d0, d1⟩ := B5.c2
    clear F5 B5
    go_wp2
    generalize (w2.setCell ⟨r, 0, none⟩ (.bool i.neg)).setCell ⟨r, 1, none⟩ (.slice i.mag.A i.mag.n i.mag.c) = W5 at *
    (try simp only [Exit.inBlock, Exit.then])
    refine bodyPost_ret (by simp [results, Tryz.results50, go_sem, d0, d1]; try rfl) rfl ?_
    exact ⟨i, rfl, ⟨HII.out.neg, HII.out.mag.fr H5.out HBs.out (noLimb_int _ _ _ _)⟩, HG3.out.fr_at H5.out (Nat.le_of_eq hPE.out)⟩

set_option maxRecDepth 100000 in
set_option maxHeartbeats 4000000 in
theorem r3of_any (w : World) (x : Int) (h1 : -1000000000 ≤ x) (h2 : x ≤ 1000000000) :
    Calls Tryz.prog 30 #[.int .i64 x] w fun e w' => ∃ r : Rv, e = .returned r.v ∧ r.Is w' (ofQ x) ∧ Gr w w' := by
  have B1 := Bk.made w 41 #[.bool false, .slice none 0 0, .slice none 0 0]
  have HG := Lib.hid ((Gr.refl w).alloc (.cells #[.bool false, .slice none 0 0, .slice none 0 0] 41))
  have C1 := Lib.hid B1
  have HI := Lib.hid (fun W => riof_any W x h1 h2)
  clear B1
  go_enter Tryz.func30, Tryz.ntmps30
  go_wp2_with fail
  go_at_call 50
  refine (HI.out _).mono ?_
  rintro e w1 ⟨i, rfl, hi, G1⟩
  have D1 := Bk.made w1 110 #[.bool i.neg, .slice i.mag.A i.mag.n i.mag.c]
  have G2 := (Gr.refl w1).alloc (.cells #[.bool i.neg, .slice i.mag.A i.mag.n i.mag.c] 110)
  have HG1 := Lib.hid ((HG.out.trans G1).trans G2)
  have HBs := Lib.hid ((G1.trans G2).bk C1.out)
  have HII := Lib.hid (hi.gr G2)
  obtain ⟨x0, x1⟩ := D1.c2
  obtain ⟨r0, r1, r2⟩ := HBs.out.c3
  have fz := HBs.out.frozen
  clear hi G1 G2 HI C1 D1
  have hne : ¬ w1.heap.size = w.heap.size := fun e => Bk.ne (Bk.made w1 110 #[.bool i.neg, .slice i.mag.A i.mag.n i.mag.c]) HBs.out (by decide) e
  have hne2 : ¬ w.heap.size = w1.heap.size := fun e => hne e.symm
  go_upto_region 2 with fail
  generalize hW : w1.alloc (.cells #[.bool i.neg, .slice i.mag.A i.mag.n i.mag.c] 110) = W at *
  have hWE := Lib.hid hW
  clear hW
  generalize hp : w.heap.size = r at *
  have hPE := Lib.hid hp
  clear hp
  obtain ⟨B5, F5⟩ := HBs.out.put3 (.bool i.neg) (.slice i.mag.A i.mag.n i.mag.c) (.slice none 0 0)
  have H5 := Lib.hid F5
  obtain ⟨d0, d1, d2⟩ := B5.c3
  clear F5 B5
  go_wp2
  generalize ((W.setCell ⟨r, 0, none⟩ (.bool i.neg)).setCell ⟨r, 1, none⟩ (.slice i.mag.A i.mag.n i.mag.c)).setCell ⟨r, 2, none⟩ (.slice none 0 0) = W5 at *
  (try simp only [Exit.inBlock, Exit.then])
  refine bodyPost_ret (by simp [results, Tryz.results30, go_sem, d0, d1, d2]; try rfl) rfl ?_
  exact ⟨⟨i.neg, i.mag, Sv.none⟩, rfl, ⟨HII.out.neg, HII.out.mag.fr H5.out HBs.out (noLimb_rat _ _ _ _ _ _ _), by rw [show (ofQ x).den = 0 from rfl, limbs_zero]; exact Sv.Num.none _⟩, HG1.out.fr_at H5.out (Nat.le_of_eq hPE.out)⟩

set_option maxRecDepth 100000 in
set_option maxHeartbeats 4000000 in
theorem r3make_any (w : World) (a b : Iv) (s t : Bool) (m n : Nat) (ha : a.Is w s m) (hb : b.Is w t n) (hm : m < 18446744073709551616) (hn0 : 0 < n) (hn : n < 18446744073709551616) :
    Calls Tryz.prog 81 #[a.v, b.v] w fun e w' => ∃ r : Rv, e = .returned (.tuple #[r.v, .int .i64 0]) ∧ r.Is w' (quot (s != t) m n) ∧ Gr w w' := by
  obtain ⟨B1, B2, B3, G⟩ := made3 w 110 110 41 #[.bool a.neg, .slice a.mag.A a.mag.n a.mag.c] #[.bool b.neg, .slice b.mag.A b.mag.n b.mag.c] #[.bool false, .slice none 0 0, .slice none 0 0]
  have HA := Lib.hid (ha.gr G)
  have HB := Lib.hid (hb.gr G)
  have HG := Lib.hid G
  have C1 := Lib.hid B1
  have C2 := Lib.hid B2
  have C3 := Lib.hid B3
  obtain ⟨b0, b1⟩ := B2.c2
  have HS := Lib.hid (risign_any _ b.neg b.mag n HB.out.mag (Nat.le_trans (limbs_len_le (k := 2) (by rw [B32_eq]; exact hn)) (by decide)))
  have hsd : ((isg b.neg n == 0) = false) := by
    unfold isg
    rw [if_neg (by omega)]
    cases b.neg <;> rfl
  have hsd2 : ¬ isg b.neg n = 0 := by simpa using hsd
  generalize isg b.neg n = sv at *
  clear ha hb B1 B2 B3 G
  simp only [Iv.v]
  go_enter Tryz.func81, Tryz.ntmps81
  go_wp2_with fail
  go_at_call 114
  refine HS.out.mono ?_
  rintro e w1 ⟨rfl, G1⟩
  have HG1 := Lib.hid (HG.out.trans G1)
  have D3 := Lib.hid (G1.bk C3.out)
  have HQ := Lib.hid (quot_ref w1 a b s t m n (HA.out.gr G1) (HB.out.gr G1) hm hn0 hn)
  obtain ⟨x0, x1⟩ := (G1.bk C1.out).c2
  obtain ⟨y0, y1⟩ := (G1.bk C2.out).c2
  clear G1 HS b0 b1 C1 C2 C3 HA HB HG
  go_wp2_with fail
  go_at_call 79
  refine HQ.out.mono ?_
  rintro e w2 ⟨i, rfl, hi, G2⟩
  have HG2 := Lib.hid (HG1.out.trans G2)
  have HBs := Lib.hid (G2.bk D3.out)
  have HII := Lib.hid hi
  obtain ⟨r0, r1, r2⟩ := HBs.out.c3
  have fz := HBs.out.frozen
  have hle : Hid (w.heap.size ≤ w.heap.size + 1 + 1) := Nat.le_trans (Nat.le_succ _) (Nat.le_succ _)
  clear hi G2 HQ D3 x0 x1 y0 y1
  generalize w.heap.size + 1 + 1 = r at *
  obtain ⟨B5, F5⟩ := HBs.out.put3 (.bool i.neg) (.slice i.num.A i.num.n i.num.c) (.slice i.den.A i.den.n i.den.c)
  have H5 := Lib.hid F5
  obtain ⟨d0, d1, d2⟩ := B5.c3
  clear F5 B5
  go_wp2
  generalize ((w2.setCell ⟨r, 0, none⟩ (.bool i.neg)).setCell ⟨r, 1, none⟩ (.slice i.num.A i.num.n i.num.c)).setCell ⟨r, 2, none⟩ (.slice i.den.A i.den.n i.den.c) = W5 at *
  (try simp only [Exit.inBlock, Exit.then])
  refine bodyPost_ret (by simp [results, Tryz.results81, go_sem, d0, d1, d2]; try rfl) rfl ?_
  exact ⟨i, rfl, HII.out.fr H5.out HBs.out (noLimb_rat _ _ _ _ _ _ _), HG2.out.fr_at H5.out hle.out⟩

set_option maxRecDepth 100000 in
set_option maxHeartbeats 4000000 in
theorem frac_any (w : World) (a : Int) (b : Nat) (h1 : -1000000000 ≤ a) (h2 : a ≤ 1000000000) (h3 : 0 < b) (h4 : b ≤ 1000000000) :
    Calls Tryz.prog 49 #[.int .i64 a, .int .i64 b] w fun e w' => ∃ r : Rv, e = .returned (.tuple #[r.v, .int .i64 0]) ∧ r.Is w' (quot (decide (a < 0)) a.natAbs b) ∧ Gr w w' := by
  have B1 := Bk.made w 41 #[.bool false, .slice none 0 0, .slice none 0 0]
  have HG := Lib.hid ((Gr.refl w).alloc (.cells #[.bool false, .slice none 0 0, .slice none 0 0] 41))
  have C1 := Lib.hid B1
  have HI := Lib.hid (fun W => riof_any W a h1 h2)
  have HJ := Lib.hid (fun W => riof_any W (b : Int) (by omega) (by omega))
  clear B1
  go_enter Tryz.func49, Tryz.ntmps49
  go_wp2_with fail
  go_at_call 50
  refine (HI.out _).mono ?_
  rintro e w1 ⟨i, rfl, hi, G1⟩
  have HG1 := Lib.hid (HG.out.trans G1)
  have C2 := Lib.hid (G1.bk C1.out)
  have HII := Lib.hid hi
  clear hi G1 HI C1
  go_wp2_with fail
  go_at_call 50
  refine (HJ.out _).mono ?_
  rintro e w2 ⟨j, rfl, hj, G2⟩
  have HG2 := Lib.hid (HG1.out.trans G2)
  have C3 := Lib.hid (G2.bk C2.out)
  rw [show decide ((b : Int) < 0) = false by simp, show ((b : Int)).natAbs = b by omega] at hj
  have HM := Lib.hid (r3make_any w2 i j _ _ _ _ (HII.out.gr G2) hj (by omega) h3 (by omega))
  rw [Bool.bne_false] at HM
  clear hj G2 HJ C2
  go_wp2_with fail
  go_at_call 81
  refine HM.out.mono ?_
  rintro e w3 ⟨k, rfl, hk, G3⟩
  have HG3 := Lib.hid (HG2.out.trans G3)
  have HBs := Lib.hid (G3.bk C3.out)
  have HKK := Lib.hid hk
  obtain ⟨r0, r1, r2⟩ := HBs.out.c3
  have fz := HBs.out.frozen
  clear hk G3 HM C3
  generalize hp : w.heap.size = r at *
  have hPE := Lib.hid hp
  clear hp
  obtain ⟨B5, F5⟩ := HBs.out.put3 (.bool k.neg) (.slice k.num.A k.num.n k.num.c) (.slice k.den.A k.den.n k.den.c)
  have H5 := Lib.hid F5
  obtain ⟨d0, d1, d2⟩ := B5.c3
  clear F5 B5
  go_wp2
  generalize ((w3.setCell ⟨r, 0, none⟩ (.bool k.neg)).setCell ⟨r, 1, none⟩ (.slice k.num.A k.num.n k.num.c)).setCell ⟨r, 2, none⟩ (.slice k.den.A k.den.n k.den.c) = W5 at *
  (try simp only [Exit.inBlock, Exit.then])
  refine bodyPost_ret (by simp [results, Tryz.results49, go_sem, d0, d1, d2]; try rfl) rfl ?_
  exact ⟨k, rfl, HKK.out.fr H5.out HBs.out (noLimb_rat _ _ _ _ _ _ _), HG3.out.fr_at H5.out (Nat.le_of_eq hPE.out)⟩

set_option maxRecDepth 100000 in
set_option maxHeartbeats 4000000 in
theorem r3valid_any (w : World) (a : Rv) (q : Q) (ha : a.Is w q) (hq : q.Ok) (hl : q.num < 18446744073709551616) (hd : q.den < 18446744073709551616) :
    Calls Tryz.prog 74 #[a.v] w fun e w' => e = .returned (.bool true) ∧ Gr w w' := by
  have B1 := Bk.made w 41 #[.bool a.neg, .slice a.num.A a.num.n a.num.c, .slice a.den.A a.den.n a.den.c]
  have G := (Gr.refl w).alloc (.cells #[.bool a.neg, .slice a.num.A a.num.n a.num.c, .slice a.den.A a.den.n a.den.c] 41)
  have HA := Lib.hid (ha.gr G)
  have HG := Lib.hid G
  have C1 := Lib.hid B1
  have HC := Lib.hid (rcanon_any (w.alloc (.cells #[.bool a.neg, .slice a.num.A a.num.n a.num.c, .slice a.den.A a.den.n a.den.c] 41)).drew a q (HA.out.gr (Gr.refl _).drew) hl hd)
  rw [quot_self hq] at HC
  clear ha B1 G
  simp only [Rv.v] at *
  go_enter Tryz.func74, Tryz.ntmps74
  go_wp2_with fail
  generalize hW : w.alloc (.cells #[.bool a.neg, .slice a.num.A a.num.n a.num.c, .slice a.den.A a.den.n a.den.c] 41) = W at *
  clear hW
  generalize w.heap.size = p at *
  obtain ⟨a0, a1, a2⟩ := C1.out.c3
  first | (go_region_held3 (fun W => W.cell? ⟨p, 0, none⟩ = some (.bool a.neg) ∧ W.cell? ⟨p, 1, none⟩ = some (.slice a.num.A a.num.n a.num.c) ∧ W.cell? ⟨p, 2, none⟩ = some (.slice a.den.A a.den.n a.den.c))
      (first | go_keep | exact ⟨hk.1, hk.2.1, hk.2.2⟩ | exact ⟨hj.1, hj.2.1, hj.2.2⟩)
      (first | (go_at_call 75; refine (HQ.out).mono ?_; rintro e w2 ⟨rfl, G2⟩; have C3 := Lib.hid (G2.bk C2.out); have HG2 := Lib.hid (HG1.out.trans G2); have hj := C3.out.c3; clear G2) | (go_at_call 80; refine (HC.out).mono ?_; rintro e w1 ⟨y, rfl, hy, G1⟩; have C2 := Lib.hid (G1.bk C1.out); have HG1 := Lib.hid (HG.out.drew.trans G1); have hk := C2.out.c3; have HQ := Lib.hid (rsame_any w1 a y q q ((HA.out.gr (Gr.refl W).drew).gr G1) hy); rw [decide_eq_true (rfl : q = q)] at HQ; simp only [Rv.v] at HQ; clear hy G1))) | fail
  go_wp2
  go_ret
  exact ⟨rfl, HG2.out⟩
end Go.Proofs.YtcmfepaffhnemaaGreatDoor

set_option linter.unusedVariables false
namespace Go.Proofs.YtcmfepaffhnemaaGreatDoor
open Go.RowKit

attribute [local go_sem] Oper.semAt_some

theorem len2 {n : Nat} (h : n < 18446744073709551616) : (limbs n).length ≤ 2 := limbs_len_le (by rw [B32_eq]; exact h)
theorem orOne_lt {n k : Nat} (h : n < k) (hk : 1 < k) : orOne n < k := by unfold orOne; split <;> omega

set_option maxRecDepth 100000 in
set_option maxHeartbeats 4000000 in
theorem r3mul_any (w : World) (a b : Rv) (x y : Q) (ha : a.Is w x) (hb : b.Is w y) (h1 : x.num < 4294967296) (h2 : y.num < 4294967296) (h3 : x.den < 4294967296) (h4 : y.den < 4294967296) :
    Calls Tryz.prog 47 #[a.v, b.v] w fun e w' => ∃ r : Rv, e = .returned r.v ∧ r.Is w' (Q.mul x y) ∧ Gr w w' := by
  obtain ⟨B1, B2, B3, G⟩ := made3 w 41 41 41 #[.bool a.neg, .slice a.num.A a.num.n a.num.c, .slice a.den.A a.den.n a.den.c] #[.bool b.neg, .slice b.num.A b.num.n b.num.c, .slice b.den.A b.den.n b.den.c] #[.bool false, .slice none 0 0, .slice none 0 0]
  have HA4 := Lib.hid (ha.gr G)
  have HB4 := Lib.hid (hb.gr G)
  have HG4 := Lib.hid G
  have C1 := Lib.hid B1
  have C2 := Lib.hid B2
  have C3 := Lib.hid B3
  have U1 : Hid (x.un < 4294967296) := orOne_lt h3 (by decide)
  have U2 : Hid (y.un < 4294967296) := orOne_lt h4 (by decide)
  have bd : ∀ m n, m < 4294967296 → n < 4294967296 → m * n < 18446744073709551616 := fun m n hm hn => by
    have : m * n ≤ 4294967295 * 4294967295 := Nat.mul_le_mul (by omega) (by omega)
    omega
  have HL := Lib.hid (bd _ _ h1 h2)
  have U3 := Lib.hid (bd _ _ U1.out U2.out)
  have L1 := Lib.hid (len2 (Nat.lt_trans h1 (by decide : 4294967296 < 18446744073709551616)))
  have L2 := Lib.hid (len2 (Nat.lt_trans h2 (by decide : 4294967296 < 18446744073709551616)))
  have L3 := Lib.hid (len2 (Nat.lt_trans h3 (by decide : 4294967296 < 18446744073709551616)))
  have L4 := Lib.hid (len2 (Nat.lt_trans h4 (by decide : 4294967296 < 18446744073709551616)))
  have L5 := Lib.hid (len2 (Nat.lt_trans U1.out (by decide : 4294967296 < 18446744073709551616)))
  have L6 := Lib.hid (len2 (Nat.lt_trans U2.out (by decide : 4294967296 < 18446744073709551616)))
  have hE : Hid (Q.mul x y = quot (x.neg != y.neg) (x.num * y.num) (x.un * y.un)) := rfl
  have N1 := Lib.hid ha.neg
  have N2 := Lib.hid hb.neg
  clear ha hb h1 h2 h3 h4 bd B1 B2 B3 G
  simp only [Rv.v] at *
  go_enter Tryz.func47, Tryz.ntmps47
  go_wp2_with fail
  have h9 : ¬ w.heap.size = w.heap.size + 1 + 1 := by omega
  have h8 : ¬ w.heap.size + 1 = w.heap.size + 1 + 1 := by omega
  have hpo : Hid (w.heap.size ≤ w.heap.size + 1 + 1) := Nat.le_trans (Nat.le_succ _) (Nat.le_succ _)
  generalize hW : ((w.alloc (.cells #[.bool a.neg, .slice a.num.A a.num.n a.num.c, .slice a.den.A a.den.n a.den.c] 41)).alloc (.cells #[.bool b.neg, .slice b.num.A b.num.n b.num.c, .slice b.den.A b.den.n b.den.c] 41)).alloc (.cells #[.bool false, .slice none 0 0, .slice none 0 0] 41) = W at *
  clear hW
  generalize w.heap.size + 1 + 1 = r at *
  generalize w.heap.size + 1 = q at *
  generalize hp : w.heap.size = p at *
  have hPE := Lib.hid hp
  clear hp
  have h6 : ¬ r = p := fun e => h9 e.symm
  have h5 : ¬ r = q := fun e => h8 e.symm
  obtain ⟨a0, a1, a2⟩ := C1.out.c3
  obtain ⟨b0, b1, b2⟩ := C2.out.c3
  have HG0 : Hid (Gr W W.drew) := (Gr.refl W).drew
  have HM0 := Lib.hid (rnmul_any W.drew a.num b.num _ _ (HA4.out.num.gr HG0.out) (HB4.out.num.gr HG0.out) (Nat.le_trans L1.out (by decide)) (Nat.le_trans L2.out (by decide)))
  rw [val_limbs, val_limbs] at HM0
  have HU1 : Hid (∀ W2, Gr W W2 → Calls Tryz.prog 77 #[.slice a.den.A a.den.n a.den.c] W2 fun e w' => ∃ y' : Sv, e = .returned y'.v ∧ y'.Num w' (limbs x.un) ∧ Gr W2 w') := fun W2 G => rone_any W2 a.den _ (HA4.out.den.gr G) (Nat.le_trans L3.out (by decide))
  have HU2 : Hid (∀ W2, Gr W W2 → Calls Tryz.prog 77 #[.slice b.den.A b.den.n b.den.c] W2 fun e w' => ∃ y' : Sv, e = .returned y'.v ∧ y'.Num w' (limbs y.un) ∧ Gr W2 w') := fun W2 G => rone_any W2 b.den _ (HB4.out.den.gr G) (Nat.le_trans L4.out (by decide))
  first | (go_region_held3 (fun W => W.cell? ⟨p, 0, none⟩ = some (.bool a.neg) ∧ W.cell? ⟨p, 1, none⟩ = some (.slice a.num.A a.num.n a.num.c) ∧ W.cell? ⟨p, 2, none⟩ = some (.slice a.den.A a.den.n a.den.c) ∧ W.cell? ⟨q, 0, none⟩ = some (.bool b.neg) ∧ W.cell? ⟨q, 1, none⟩ = some (.slice b.num.A b.num.n b.num.c) ∧ W.cell? ⟨q, 2, none⟩ = some (.slice b.den.A b.den.n b.den.c))
      (first | go_keep | exact ⟨hk0.1.1, hk0.1.2.1, hk0.1.2.2, hk0.2.1, hk0.2.2.1, hk0.2.2.2⟩ | exact ⟨hk1.1.1, hk1.1.2.1, hk1.1.2.2, hk1.2.1, hk1.2.2.1, hk1.2.2.2⟩ | exact ⟨hk2.1.1, hk2.1.2.1, hk2.1.2.2, hk2.2.1, hk2.2.2.1, hk2.2.2.2⟩ | exact ⟨hk3.1.1, hk3.1.2.1, hk3.1.2.2, hk3.2.1, hk3.2.2.1, hk3.2.2.2⟩ | exact ⟨hk4.1.1, hk4.1.2.1, hk4.1.2.2, hk4.2.1, hk4.2.2.1, hk4.2.2.2⟩)
      (first | (go_at_call 79; refine (HQ.out).mono ?_; rintro e w7 ⟨i, rfl, hi, G8⟩; have HG8 := Lib.hid (HG7.out.trans G8); have hk4 := And.intro (HG8.out.bk C1.out).c3 (HG8.out.bk C2.out).c3; have HBs := Lib.hid (HG8.out.bk C3.out); obtain ⟨r0, r1, r2⟩ := HBs.out.c3; have fz := HBs.out.frozen; have HII := Lib.hid hi; clear hi G8) | (go_at_call 76; refine (HM.out).mono ?_; rintro e w6 ⟨z, rfl, hz, G7⟩; have HG7 := Lib.hid (HG6.out.trans G7); have hk3 := And.intro (HG7.out.bk C1.out).c3 (HG7.out.bk C2.out).c3; have HQ := Lib.hid (rquot_any w6 (a.neg != b.neg) m z _ _ (HNM2.out.gr G7) hz HL.out (Nat.mul_pos x.un_pos y.un_pos) U3.out); clear hz G7) | (go_at_call 77; refine ((HU2.out w4 HG5.out)).mono ?_; rintro e w5 ⟨v, rfl, hv, G6⟩; have HNM2 := Lib.hid (HNM1.out.gr G6); have HG6 := Lib.hid (HG5.out.trans G6); have hk2 := And.intro (HG6.out.bk C1.out).c3 (HG6.out.bk C2.out).c3; have HM := Lib.hid (rnmul_any w5 u v _ _ (HNU.out.gr G6) hv (Nat.le_trans L5.out (by decide)) (Nat.le_trans L6.out (by decide))); rw [val_limbs, val_limbs] at HM; clear hv G6) | (go_at_call 77; refine ((HU1.out w3 HG3.out)).mono ?_; rintro e w4 ⟨u, rfl, hu, G5⟩; have HNM1 := Lib.hid (HNM.out.gr G5); have HG5 := Lib.hid (HG3.out.trans G5); have hk1 := And.intro (HG5.out.bk C1.out).c3 (HG5.out.bk C2.out).c3; have HNU := Lib.hid hu; clear hu G5) | (go_at_call 76; refine (HM0.out).mono ?_; rintro e w3 ⟨m, rfl, hm, G4⟩; have HG3 := Lib.hid (HG0.out.trans G4); have hk0 := And.intro (HG3.out.bk C1.out).c3 (HG3.out.bk C2.out).c3; have HNM := Lib.hid hm; clear hm G4))) | fail
  obtain ⟨B5, F5⟩ := HBs.out.put3 (.bool i.neg) (.slice i.num.A i.num.n i.num.c) (.slice i.den.A i.den.n i.den.c)
  have H5 := Lib.hid F5
  obtain ⟨d0, d1, d2⟩ := B5.c3
  clear F5 B5
  go_wp2
  generalize ((w7.setCell ⟨r, 0, none⟩ (.bool i.neg)).setCell ⟨r, 1, none⟩ (.slice i.num.A i.num.n i.num.c)).setCell ⟨r, 2, none⟩ (.slice i.den.A i.den.n i.den.c) = W5 at *
  (try simp only [Exit.inBlock, Exit.then])
  refine bodyPost_ret (by simp [results, Tryz.results47, go_sem, d0, d1, d2]; try rfl) rfl ?_
  exact ⟨i, rfl, by rw [hE.out, ← N1.out, ← N2.out]; exact HII.out.fr H5.out HBs.out (noLimb_rat _ _ _ _ _ _ _), (HG4.out.trans HG8.out).fr_at H5.out (by rw [hPE.out]; exact hpo.out)⟩
end Go.Proofs.YtcmfepaffhnemaaGreatDoor

set_option linter.unusedVariables false
namespace Go.Proofs.YtcmfepaffhnemaaGreatDoor
open Go.RowKit

attribute [local go_sem] Oper.semAt_some

theorem elemU : ElemS Tryz.prog 38 211 1 4 := elem_of (z := .int .u32 0) (by kernel_rfl) (by kernel_rfl) rfl (by decide)
structure RAddSt (a b o : List Nat) (i c : Nat) : Prop where
  len : o.length = i
  lim : Lim o
  car : c ≤ 1
  sum : val o + B32 ^ i * c = val (a.take i) + val (b.take i)
theorem RAddSt.start (a b : List Nat) : RAddSt a b [] 0 0 := ⟨rfl, Lim.nil, by omega, by simp [val]⟩
theorem RAddSt.step {a b o : List Nat} {i c : Nat} (h : RAddSt a b o i c) (ha : Lim a) (hb : Lim b) {s : Nat} (hs : s = c + (lim0 a i + lim0 b i)) : RAddSt a b (o ++ [s % B32]) (i + 1) (s / B32) := by
  have h1 := lim0_lt ha i
  have h2 := lim0_lt hb i
  have h3 := h.car
  have hB := B32_eq
  refine ⟨by rw [List.length_append, h.len]; rfl, h.lim.append (Lim.one (Nat.mod_lt _ (by decide))), ?_, ?_⟩
  · have := Nat.div_lt_of_lt_mul (show s < B32 * 2 by omega)
    omega
  · have e2 := h.sum
    have e3 := val_take_lim0 a i
    have e4 := val_take_lim0 b i
    have e5 : B32 ^ i * (s % B32) + B32 ^ (i + 1) * (s / B32) = B32 ^ i * s := by
      rw [Nat.pow_succ, Nat.mul_assoc, ← Nat.mul_add, Nat.mod_add_div]
    have e6 : B32 ^ i * s = B32 ^ i * c + B32 ^ i * lim0 a i + B32 ^ i * lim0 b i := by rw [hs, ← Nat.add_assoc, Nat.mul_add, Nat.mul_add]
    rw [val_snoc, h.len]
    omega
theorem RAddSt.done {a b o : List Nat} {n c : Nat} (h : RAddSt a b o n c) (ha : a.length ≤ n) (hb : b.length ≤ n) : val (o ++ [c]) = val a + val b ∧ Lim (o ++ [c]) := by
  have e2 := h.sum
  rw [val_take_all ha, val_take_all hb] at e2
  exact ⟨by rw [val_snoc, h.len]; exact e2, h.lim.append (Lim.one (by have := h.car; have := B32_eq; omega))⟩
theorem one_cell_arr (v : Int) : ∀ u ∈ (#[Value.int .u32 v] : Array Value).toList, u.oneCell' = true := by
  intro u hu
  simp at hu
  subst hu
  rfl

set_option maxRecDepth 100000 in
set_option maxHeartbeats 2000000 in
theorem rnadd_any (w : World) (x y : Sv) (a b : List Nat) (hx : x.Num w a) (hy : y.Num w b) (ha : a.length ≤ 400000) (hb : b.length ≤ 400000) :
    Calls Tryz.prog 118 #[.slice x.A x.n x.c, .slice y.A y.n y.c] w fun e w' => ∃ z : Sv, e = .returned z.v ∧ z.Num w' (limbs (val a + val b)) ∧ Gr w w' := by
  have HX := Lib.hid hx
  have HY := Lib.hid hy
  have HNx := Lib.hid hx.len
  have HNy := Lib.hid hy.len
  have hn9 : x.n ≤ 400000 := by rw [← HNx.out]; exact ha
  have hm9 : y.n ≤ 400000 := by rw [← HNy.out]; exact hb
  have HS0 := Lib.hid (RAddSt.start a b)
  have R0 : Hid (w.ownsRow w.heap.size 211 1 (.slice none 0 0) 0 (([] : List Nat).map lv)) := ⟨rfl, .inl ⟨rfl, rfl⟩⟩
  have HLx : Hid (∀ W (i : Nat), Gr w W → i ≤ 1000000000 → Calls Tryz.prog 116 #[.slice x.A x.n x.c, .int .i64 i] W fun e w' => e = .returned (.int .u32 (lim0 a i)) ∧ w' = W) := fun W i G hi => limb_any W x a i (hx.gr G) hi
  have HLy : Hid (∀ W (i : Nat), Gr w W → i ≤ 1000000000 → Calls Tryz.prog 116 #[.slice y.A y.n y.c, .int .i64 i] W fun e w' => e = .returned (.int .u32 (lim0 b i)) ∧ w' = W) := fun W i G hi => limb_any W y b i (hy.gr G) hi
  clear hx hy ha hb
  obtain ⟨A, n, c⟩ := x
  obtain ⟨B, m, d⟩ := y
  simp only at *
  go_enter Tryz.func118, Tryz.ntmps118
  go_wp2
  go_loopw [5, 6, 7] (fun s5 s6 i wr => ∃ (t cr : Nat) (o : List Nat), i = .int .i64 t ∧ s6 = .int .u64 cr ∧ (t ≤ n ∨ t ≤ m) ∧ cr ≤ 1 ∧ Hid (RAddSt a b o t cr) ∧ Hid (wr.ownsRow w.heap.size 211 1 s5 t (o.map lv)) ∧ Hid (Gr w wr)) (fun _ _ i _ => n + m - (intOf i).toNat)
  case atStart => exact ⟨0, 0, [], rfl, rfl, .inl (Nat.zero_le _), by omega, HS0, R0, Gr.refl w⟩
  case round =>
    obtain ⟨t, cr, o, rfl, rfl, ht, hcr, hS, hR, hG⟩ := hrel
    by_cases hlt : t < n ∨ t < m
    · have HA1 := Lib.hid (HLx.out wr t hG.out (by omega))
      have HA2 := Lib.hid (HLy.out wr t hG.out (by omega))
      obtain ⟨s, hs⟩ : ∃ s, s = cr + (lim0 a t + lim0 b t) := ⟨_, rfl⟩
      have HST := Lib.hid (hS.out.step HX.out.lim HY.out.lim hs)
      have hp9 := lim0_lt HX.out.lim t
      have hq9 := lim0_lt HY.out.lim t
      rw [B32_eq] at hp9 hq9
      obtain ⟨lo, hlo⟩ : ∃ lo, lo = s % B32 := ⟨_, rfl⟩
      obtain ⟨hi, hhi⟩ : ∃ hi, hi = s / B32 := ⟨_, rfl⟩
      rw [← hlo, ← hhi] at HST
      have hhi1 : hi ≤ 1 := HST.out.car
      generalize lim0 a t = p at *
      generalize lim0 b t = q at *
      have E1 : Hid (((cr : Int) + (p + q)) % 4294967296 = lo) := by rw [B32_eq] at hlo; exact (by omega : ((cr : Int) + (p + q)) % 4294967296 = lo)
      have E2 : Hid (((cr : Int) + (p + q)) / 4294967296 = hi) := by rw [B32_eq] at hhi; exact (by omega : ((cr : Int) + (p + q)) / 4294967296 = hi)
      have hsz := hG.out.size
      clear hlo hhi hs
      by_cases htn : t < n
      · go_wp2_with fail
        go_at_call 116
        refine HA1.out.mono ?_
        rintro e w2 ⟨rfl, rfl⟩
        go_wp2_with fail
        go_at_call 116
        refine HA2.out.mono ?_
        rintro e w2 ⟨rfl, rfl⟩
        go_wp2_with (at_builtin; refine wpList_appS1 (w := w2) elemU rfl (.tmp 31) (.tmp 34) rfl w.heap.size u5 t (o.map lv) #[.int .u32 (((cr : Int) + (p + q)) % 4294967296)] rfl rfl rfl hR.out (one_cell_arr _) (by unfold maxLen; omega) (by omega) hsz ?_; intro v5 w5 h5 F5 _)
        rw [E1.out] at h5
        have HR5 : Hid (w5.ownsRow w.heap.size 211 1 v5 (t + 1) ((o ++ [lo]).map lv)) := by rw [List.map_append]; exact h5
        have HG5 : Hid (Gr w w5) := hG.out.step F5 fun b _ e => (rw_lt hR.out b e).1
        clear h5 F5
        go_roundw
        case rel =>
          rw [E2.out]
          exact ⟨t + 1, hi, _, by go_num, rfl, by omega, hhi1, HST, HR5, HG5⟩
        case measure => simp [intOf]; omega
      · have htm : t < m := by omega
        have hd1 : decide ((t : Int) < n) = false := by simp; omega
        have hd2 : decide ((t : Int) < m) = true := by simp; omega
        go_wp2_with fail
        go_at_call 116
        refine HA1.out.mono ?_
        rintro e w2 ⟨rfl, rfl⟩
        go_wp2_with fail
        go_at_call 116
        refine HA2.out.mono ?_
        rintro e w2 ⟨rfl, rfl⟩
        go_wp2_with (at_builtin; refine wpList_appS1 (w := w2) elemU rfl (.tmp 31) (.tmp 34) rfl w.heap.size u5 t (o.map lv) #[.int .u32 (((cr : Int) + (p + q)) % 4294967296)] rfl rfl rfl hR.out (one_cell_arr _) (by unfold maxLen; omega) (by omega) hsz ?_; intro v5 w5 h5 F5 _)
        rw [E1.out] at h5
        have HR5 : Hid (w5.ownsRow w.heap.size 211 1 v5 (t + 1) ((o ++ [lo]).map lv)) := by rw [List.map_append]; exact h5
        have HG5 : Hid (Gr w w5) := hG.out.step F5 fun b _ e => (rw_lt hR.out b e).1
        clear h5 F5
        go_roundw
        case rel =>
          rw [E2.out]
          exact ⟨t + 1, hi, _, by go_num, rfl, by omega, hhi1, HST, HR5, HG5⟩
        case measure => simp [intOf]; omega
    · have hd1 : decide ((t : Int) < n) = false := by simp; omega
      have hd2 : decide ((t : Int) < m) = false := by simp; omega
      have hnn : ¬ t < n := by omega
      have hmm : ¬ t < m := by omega
      obtain ⟨e1, e2⟩ := hS.out.done (by rw [HNx.out]; omega) (by rw [HNy.out]; omega)
      have HE1 := Lib.hid e1
      have HE2 := Lib.hid e2
      have hsz := hG.out.size
      have ht9 : t ≤ 400000 := by omega
      clear e1 e2 hlt ht
      have hc : Hid ((cr : Int) % 4294967296 = cr) := (by omega : (cr : Int) % 4294967296 = cr)
      go_wp2_with (at_builtin; refine wpList_appS1 (w := wr) elemU rfl (.tmp 38) (.tmp 41) rfl w.heap.size u5 t (o.map lv) #[.int .u32 (cr : Int)] rfl rfl rfl hR.out (one_cell_arr _) (by unfold maxLen; omega) (by omega) hsz ?_; intro v5 w5 h5 F5 _)
      obtain ⟨z, hzv, hzn, hz, hty⟩ := Sv.of_row h5 (by decide)
      have HZZ : Hid (z.Num w5 (o ++ [cr])) := ⟨by rw [List.map_append]; exact hz, HE2.out, hty⟩
      have HLN : Hid ((o ++ [cr]).length ≤ 1000000) := by
        rw [List.length_append, hS.out.len]
        exact (show t + 1 ≤ 1000000 by omega)
      have HT := Lib.hid (rmake_any w5 z _ HZZ.out HLN.out)
      rw [HE1.out] at HT
      have HG5 : Hid (Gr w w5) := hG.out.step F5 fun b _ e => (rw_lt hR.out b e).1
      subst hzv
      clear h5 F5 hz hty hzn
      simp only [Sv.v]
      go_wp2_with fail
      go_at_call 117
      refine HT.out.mono ?_
      rintro e w6 ⟨k, rfl, hk, G6⟩
      have HK := Lib.hid hk
      have HG6 := Lib.hid (HG5.out.trans G6)
      clear hk G6 HT
      go_wp2
      go_ret
      exact ⟨k, rfl, HK.out, HG6.out⟩
end Go.Proofs.YtcmfepaffhnemaaGreatDoor

set_option linter.unusedVariables false
namespace Go.Proofs.YtcmfepaffhnemaaGreatDoor
open Go.RowKit

attribute [local go_sem] Oper.semAt_some

theorem high_eq {a b : List Nat} {k : Nat} (h : ∀ j, k ≤ j → lim0 a j = lim0 b j) : ∀ d, val (a.take (k + d)) + val (b.take k) = val (b.take (k + d)) + val (a.take k)
  | 0 => by rw [Nat.add_zero, Nat.add_comm]
  | d + 1 => by
    have ih := high_eq h d
    rw [← Nat.add_assoc, val_take_lim0, val_take_lim0, h (k + d) (by omega)]
    omega
theorem high_all {a b : List Nat} {k : Nat} (h : ∀ j, k ≤ j → lim0 a j = lim0 b j) : val a + val (b.take k) = val b + val (a.take k) := by
  have := high_eq h (a.length + b.length)
  rw [List.take_of_length_le (show a.length ≤ k + (a.length + b.length) by omega), List.take_of_length_le (show b.length ≤ k + (a.length + b.length) by omega)] at this
  exact this
theorem high_lt {a b : List Nat} {j : Nat} (ha : Lim a) (h : ∀ i, j + 1 ≤ i → lim0 a i = lim0 b i) (hlt : lim0 a j < lim0 b j) : val a < val b := by
  have h1 := high_all h
  rw [val_take_lim0, val_take_lim0] at h1
  have h2 := val_lt (ha.take j)
  have h3 : B32 ^ (a.take j).length ≤ B32 ^ j := Nat.pow_le_pow_right (by decide) (by rw [List.length_take]; omega)
  have h4 : B32 ^ j * (lim0 a j + 1) ≤ B32 ^ j * lim0 b j := Nat.mul_le_mul_left _ hlt
  rw [Nat.mul_add] at h4
  omega

set_option maxRecDepth 100000 in
set_option maxHeartbeats 2000000 in
theorem rcmp_any (w : World) (x y : Sv) (a b : List Nat) (hx : x.Num w a) (hy : y.Num w b) (ha : a.length ≤ 400000) (hb : b.length ≤ 400000) :
    Calls Tryz.prog 155 #[.slice x.A x.n x.c, .slice y.A y.n y.c] w fun e w' => e = .returned (.int .i64 (cmpN (val a) (val b))) ∧ w' = w := by
  have HNx := Lib.hid hx.len
  have HNy := Lib.hid hy.len
  have hn9 : x.n ≤ 400000 := by rw [← HNx.out]; exact ha
  have hm9 : y.n ≤ 400000 := by rw [← HNy.out]; exact hb
  have HLA := Lib.hid hx.lim
  have HLB := Lib.hid hy.lim
  have HLx : Hid (∀ (i : Nat), i ≤ 1000000000 → Calls Tryz.prog 116 #[.slice x.A x.n x.c, .int .i64 i] w fun e w' => e = .returned (.int .u32 (lim0 a i)) ∧ w' = w) := fun i hi => limb_any w x a i hx hi
  have HLy : Hid (∀ (i : Nat), i ≤ 1000000000 → Calls Tryz.prog 116 #[.slice y.A y.n y.c, .int .i64 i] w fun e w' => e = .returned (.int .u32 (lim0 b i)) ∧ w' = w) := fun i hi => limb_any w y b i hy hi
  obtain ⟨N, hN, hN1, hN2, hmx⟩ : ∃ N : Nat, N ≤ 400000 ∧ x.n ≤ N ∧ y.n ≤ N ∧ max (x.n : Int) (y.n : Int) = (N : Int) := ⟨max x.n y.n, by omega, by omega, by omega, by omega⟩
  have H0 : Hid (∀ j, N ≤ j → lim0 a j = lim0 b j) := fun j hj => by
    rw [lim0_past (by rw [HNx.out]; omega), lim0_past (by rw [HNy.out]; omega)]
  clear hx hy ha hb
  go_enter Tryz.func155, Tryz.ntmps155
  go_wp2
  clear hmx
  go_loopw [5] (fun s wr => ∃ k : Nat, s = .int .i64 ((k : Int) - 1) ∧ k ≤ N ∧ Hid (∀ j, k ≤ j → lim0 a j = lim0 b j) ∧ wr = w) (fun s _ => (intOf s + 1).toNat)
  case atStart => exact ⟨N, rfl, Nat.le_refl _, H0, rfl⟩
  case round =>
    obtain ⟨k, rfl, hk, hD, rfl⟩ := hrel
    cases k with
    | zero =>
      have hE : Hid (cmpN (val a) (val b) = 0) := by
        have h := high_all hD.out
        simp only [List.take_zero, val] at h
        rw [show val a = val b by omega]
        exact cmpN_eq _
      have h0 : ((0 : Nat) : Int) - 1 = -1 := rfl
      rw [h0]
      go_wp2
      go_ret
      exact ⟨by rw [hE.out]; rfl, rfl⟩
    | succ j =>
      have hj : (((j + 1 : Nat) : Int) - 1) = (j : Int) := by omega
      rw [hj]
      have HA1 := Lib.hid (HLx.out j (by omega))
      have HA2 := Lib.hid (HLy.out j (by omega))
      have HC1 : Hid (lim0 a j < lim0 b j → cmpN (val a) (val b) = -1) := fun h => cmpN_lt (high_lt HLA.out hD.out h)
      have HC2 : Hid (lim0 b j < lim0 a j → cmpN (val a) (val b) = 1) := fun h => cmpN_gt (high_lt HLB.out (fun i hi => (hD.out i hi).symm) h)
      have HD2 : Hid (lim0 a j = lim0 b j → ∀ i, j ≤ i → lim0 a i = lim0 b i) := fun h i hi => by
        rcases Nat.eq_or_lt_of_le hi with rfl | h1
        · exact h
        · exact hD.out i h1
      generalize hp : lim0 a j = p at *
      generalize hq : lim0 b j = q at *
      clear hp hq hD
      by_cases h1 : p < q
      · have hE := Lib.hid (HC1.out h1)
        have hd : decide ((p : Int) < q) = true := by simp; omega
        go_wp2_with fail
        go_at_call 116
        refine HA1.out.mono ?_
        rintro e w2 ⟨rfl, rfl⟩
        go_wp2_with fail
        go_at_call 116
        refine HA2.out.mono ?_
        rintro e w2 ⟨rfl, rfl⟩
        go_wp2
        go_ret
        exact ⟨by rw [hE.out]; rfl, rfl⟩
      · have hd : decide ((p : Int) < q) = false := by simp; omega
        have hd3 : ¬ p < q := h1
        go_wp2_with fail
        go_at_call 116
        refine HA1.out.mono ?_
        rintro e w2 ⟨rfl, rfl⟩
        go_wp2_with fail
        go_at_call 116
        refine HA2.out.mono ?_
        rintro e w2 ⟨rfl, rfl⟩
        go_wp2_with fail
        go_at_call 116
        refine HA1.out.mono ?_
        rintro e w2 ⟨rfl, rfl⟩
        go_wp2_with fail
        go_at_call 116
        refine HA2.out.mono ?_
        rintro e w2 ⟨rfl, rfl⟩
        by_cases h2 : q < p
        · have hE := Lib.hid (HC2.out h2)
          have hd2 : decide ((q : Int) < p) = true := by simp; omega
          go_wp2
          go_ret
          exact ⟨by rw [hE.out]; rfl, rfl⟩
        · have hd2 : decide ((q : Int) < p) = false := by simp; omega
          have hDD := Lib.hid (HD2.out (by omega))
          go_wp2
          go_roundw
          case rel => exact ⟨j, rfl, by omega, hDD, trivial⟩
          case measure => first | (simp [intOf]; done) | (simp [intOf]; omega)
end Go.Proofs.YtcmfepaffhnemaaGreatDoor

set_option linter.unusedVariables false
namespace Go.Proofs.YtcmfepaffhnemaaGreatDoor
open Go.RowKit

attribute [local go_sem] Oper.semAt_some

structure RSubSt (a b o : List Nat) (i c : Nat) : Prop where
  len : o.length = i
  lim : Lim o
  car : c ≤ 1
  sum : val o + val (b.take i) = val (a.take i) + B32 ^ i * c
theorem RSubSt.start (a b : List Nat) : RSubSt a b [] 0 0 := ⟨rfl, Lim.nil, by omega, by simp [val]⟩
theorem RSubSt.step {a b o : List Nat} {i c x c' : Nat} (h : RSubSt a b o i c) (hx : x < B32) (hc : c' ≤ 1) (hs : x + (lim0 b i + c) = lim0 a i + B32 * c') : RSubSt a b (o ++ [x]) (i + 1) c' := by
  refine ⟨by rw [List.length_append, h.len]; rfl, h.lim.append (Lim.one hx), hc, ?_⟩
  have e2 := h.sum
  have e3 := val_take_lim0 a i
  have e4 := val_take_lim0 b i
  have e5 : B32 ^ i * (x + (lim0 b i + c)) = B32 ^ i * (lim0 a i + B32 * c') := by rw [hs]
  rw [Nat.mul_add, Nat.mul_add, Nat.mul_add] at e5
  have e6 : B32 ^ (i + 1) * c' = B32 ^ i * (B32 * c') := by rw [Nat.pow_succ, Nat.mul_assoc]
  rw [val_snoc, h.len]
  omega
theorem RSubSt.done {a b o : List Nat} {c : Nat} (h : RSubSt a b o a.length c) (hv : val b ≤ val a) (hb : Lim b) (hl : ∀ i, a.length ≤ i → lim0 b i = 0) : val o = val a - val b := by
  have e2 := h.sum
  rw [List.take_length] at e2
  have h1 := val_lt h.lim
  rw [h.len] at h1
  have h2 : val (b.take a.length) = val b := val_take fun i x hi hx => by
    rw [← lim0_at hx]
    exact hl i hi
  rw [h2] at e2
  rcases Nat.eq_zero_or_pos c with rfl | hc
  · omega
  · have : c = 1 := by have := h.car; omega
    subst this
    omega
/-- A number that is not greater has no limbs behind the other's. -/
theorem no_high {a b : List Nat} (hv : val b ≤ val a) (ha : Lim a) : ∀ i, a.length ≤ i → lim0 b i = 0 := fun i hi => by
  rcases Nat.eq_zero_or_pos (lim0 b i) with h | h
  · exact h
  · have h1 := val_lt ha
    have h2 := val_take_lim0 b i
    have h3 := val_take_le b (i + 1)
    have h4 : B32 ^ a.length ≤ B32 ^ i := Nat.pow_le_pow_right (by decide) hi
    have h5 : B32 ^ i * 1 ≤ B32 ^ i * lim0 b i := Nat.mul_le_mul_left _ h
    omega

set_option maxRecDepth 100000 in
set_option maxHeartbeats 2000000 in
theorem rnsub_any (w : World) (x y : Sv) (a b : List Nat) (hx : x.Num w a) (hy : y.Num w b) (ha : a.length ≤ 400000) (hb : b.length ≤ 400000) :
    Calls Tryz.prog 119 #[.slice x.A x.n x.c, .slice y.A y.n y.c] w fun e w' => Gr w w' ∧ ((val b ≤ val a ∧ ∃ z : Sv, e = .returned (.tuple #[z.v, .int .i64 0]) ∧ z.Num w' (limbs (val a - val b))) ∨ (val a < val b ∧ e = .returned (.tuple #[.slice none 0 0, .int .i64 2]))) := by
  have HC := Lib.hid (rcmp_any w x y a b hx hy ha hb)
  have HX := Lib.hid hx
  have HY := Lib.hid hy
  have HNx := Lib.hid hx.len
  have hn9 : x.n ≤ 400000 := by rw [← HNx.out]; exact ha
  have R0 : Hid (w.ownsRow w.heap.size 211 1 (.slice none 0 0) 0 (([] : List Nat).map lv)) := ⟨rfl, .inl ⟨rfl, rfl⟩⟩
  have HS0 := Lib.hid (RSubSt.start a b)
  have HLx : Hid (∀ W (i : Nat), Gr w W → i ≤ 1000000000 → Calls Tryz.prog 116 #[.slice x.A x.n x.c, .int .i64 i] W fun e w' => e = .returned (.int .u32 (lim0 a i)) ∧ w' = W) := fun W i G hi => limb_any W x a i (hx.gr G) hi
  have HLy : Hid (∀ W (i : Nat), Gr w W → i ≤ 1000000000 → Calls Tryz.prog 116 #[.slice y.A y.n y.c, .int .i64 i] W fun e w' => e = .returned (.int .u32 (lim0 b i)) ∧ w' = W) := fun W i G hi => limb_any W y b i (hy.gr G) hi
  clear hx hy ha hb
  by_cases hab : val a < val b
  · have hE : Hid (cmpN (val a) (val b) = -1) := cmpN_lt hab
    rw [hE.out] at HC
    have HAB := Lib.hid hab
    go_enter Tryz.func119, Tryz.ntmps119
    go_wp2_with fail
    go_at_call 155
    refine HC.out.mono ?_
    rintro e w2 ⟨rfl, rfl⟩
    go_wp2
    go_returns
    exact ⟨Gr.refl _, .inr ⟨HAB.out, rfl⟩⟩
  · have hc0 : decide (cmpN (val a) (val b) < 0) = false := by
      unfold cmpN
      rw [if_neg hab]
      split <;> simp
    have HLE : Hid (val b ≤ val a) := Nat.le_of_not_lt hab
    generalize cmpN (val a) (val b) = cm at *
    have hc1 : ¬ cm < 0 := by simpa using hc0
    clear hab
    go_enter Tryz.func119, Tryz.ntmps119
    go_wp2_with fail
    go_at_call 155
    refine HC.out.mono ?_
    rintro e w2 ⟨rfl, rfl⟩
    obtain ⟨A, n, c⟩ := x
    simp only at *
    go_wp2
    go_loopw [6, 7, 8] (fun s6 s7 i wr => ∃ (t cr : Nat) (o : List Nat), i = .int .i64 t ∧ s7 = .int .u64 cr ∧ t ≤ n ∧ cr ≤ 1 ∧ Hid (RSubSt a b o t cr) ∧ Hid (wr.ownsRow w2.heap.size 211 1 s6 t (o.map lv)) ∧ Hid (Gr w2 wr)) (fun _ _ i _ => n - (intOf i).toNat)
    case atStart => exact ⟨0, 0, [], rfl, rfl, Nat.zero_le _, by omega, HS0, R0, Gr.refl _⟩
    case round =>
      obtain ⟨t, cr, o, rfl, rfl, ht, hcr, hS, hR, hG⟩ := hrel
      by_cases htn : t < n
      · have HA1 := Lib.hid (HLx.out wr t hG.out (by omega))
        have HA2 := Lib.hid (HLy.out wr t hG.out (by omega))
        have hp9 := lim0_lt HX.out.lim t
        have hq9 := lim0_lt HY.out.lim t
        rw [B32_eq] at hp9 hq9
        have HST : Hid (∀ x c', x < 4294967296 → c' ≤ 1 → x + (lim0 b t + cr) = lim0 a t + 4294967296 * c' → RSubSt a b (o ++ [x]) (t + 1) c') := fun x c' h1 h2 h3 => hS.out.step h1 h2 h3
        generalize lim0 a t = p at *
        generalize lim0 b t = q at *
        have hsz := hG.out.size
        by_cases hpq : p < q + cr
        · have hd : decide ((p : Int) < (q : Int) + cr) = true := by simp; omega
          obtain ⟨x, hx⟩ : ∃ x, x = p + 4294967296 - (q + cr) := ⟨_, rfl⟩
          have E1 : Hid ((p : Int) + 4294967296 - ((q : Int) + cr) = (x : Int)) := (by omega : (p : Int) + 4294967296 - ((q : Int) + cr) = (x : Int))
          have HSS := Lib.hid (HST.out x 1 (by omega) (by omega) (by omega))
          clear hx
          go_wp2_with fail
          go_at_call 116
          refine HA1.out.mono ?_
          rintro e w3 ⟨rfl, rfl⟩
          go_wp2_with fail
          go_at_call 116
          refine HA2.out.mono ?_
          rintro e w3 ⟨rfl, rfl⟩
          go_wp2_with (at_builtin; refine wpList_appS1 (w := w3) elemU rfl (.tmp 36) (.tmp 41) rfl w2.heap.size u6 t (o.map lv) #[.int .u32 ((p : Int) + 4294967296 - ((q : Int) + cr))] rfl rfl rfl hR.out (one_cell_arr _) (by unfold maxLen; omega) (by omega) hsz ?_; intro v5 w5 h5 F5 _)
          rw [E1.out] at h5
          have HR5 : Hid (w5.ownsRow w2.heap.size 211 1 v5 (t + 1) ((o ++ [x]).map lv)) := by rw [List.map_append]; exact h5
          have HG5 : Hid (Gr w2 w5) := hG.out.step F5 fun b _ e => (rw_lt hR.out b e).1
          clear h5 F5
          go_roundw
          case rel => exact ⟨t + 1, 1, _, by go_num, rfl, by omega, by omega, HSS, HR5, HG5⟩
          case measure => simp [intOf]; omega
        · have hd : decide ((p : Int) < (q : Int) + cr) = false := by simp; omega
          obtain ⟨x, hx⟩ : ∃ x, x = p - (q + cr) := ⟨_, rfl⟩
          have E1 : Hid ((p : Int) - ((q : Int) + cr) = (x : Int)) := (by omega : (p : Int) - ((q : Int) + cr) = (x : Int))
          have HSS := Lib.hid (HST.out x 0 (by omega) (by omega) (by omega))
          clear hx
          go_wp2_with fail
          go_at_call 116
          refine HA1.out.mono ?_
          rintro e w3 ⟨rfl, rfl⟩
          go_wp2_with fail
          go_at_call 116
          refine HA2.out.mono ?_
          rintro e w3 ⟨rfl, rfl⟩
          go_wp2_with (at_builtin; refine wpList_appS1 (w := w3) elemU rfl (.tmp 36) (.tmp 41) rfl w2.heap.size u6 t (o.map lv) #[.int .u32 ((p : Int) - ((q : Int) + cr))] rfl rfl rfl hR.out (one_cell_arr _) (by unfold maxLen; omega) (by omega) hsz ?_; intro v5 w5 h5 F5 _)
          rw [E1.out] at h5
          have HR5 : Hid (w5.ownsRow w2.heap.size 211 1 v5 (t + 1) ((o ++ [x]).map lv)) := by rw [List.map_append]; exact h5
          have HG5 : Hid (Gr w2 w5) := hG.out.step F5 fun b _ e => (rw_lt hR.out b e).1
          clear h5 F5
          go_roundw
          case rel => exact ⟨t + 1, 0, _, by go_num, rfl, by omega, by omega, HSS, HR5, HG5⟩
          case measure => simp [intOf]; omega
      · obtain rfl : t = n := by omega
        have e1 : val o = val a - val b := by
          have h := hS.out
          rw [← HNx.out] at h
          exact h.done HLE.out HY.out.lim (no_high HLE.out HX.out.lim)
        obtain ⟨z, hzv, hzn, hz, hty⟩ := Sv.of_row hR.out (by decide)
        have HZZ : Hid (z.Num wr o) := ⟨hz, hS.out.lim, hty⟩
        have HT := Lib.hid (rmake_any wr z _ HZZ.out (by rw [hS.out.len]; omega))
        rw [e1] at HT
        subst hzv
        clear hz hty hzn e1
        simp only [Sv.v]
        go_wp2_with fail
        go_at_call 117
        refine HT.out.mono ?_
        rintro e w6 ⟨k, rfl, hk, G6⟩
        have HK := Lib.hid hk
        have HG6 := Lib.hid (hG.out.trans G6)
        clear hk G6 HT
        go_wp2
        go_returns
        exact ⟨HG6.out, .inl ⟨HLE.out, k, rfl, HK.out⟩⟩
end Go.Proofs.YtcmfepaffhnemaaGreatDoor

set_option linter.unusedVariables false
namespace Go.Proofs.YtcmfepaffhnemaaGreatDoor
open Go.RowKit

attribute [local go_sem] Oper.semAt_some

set_option maxRecDepth 100000 in
set_option maxHeartbeats 4000000 in
theorem riadd_any (w : World) (a b : Iv) (s t : Bool) (m n : Nat) (ha : a.Is w s m) (hb : b.Is w t n) (hm : (limbs m).length ≤ 300000) (hn : (limbs n).length ≤ 300000) :
    Calls Tryz.prog 78 #[a.v, b.v] w fun e w' => ∃ r : Iv, e = .returned r.v ∧ r.Is w' (sadd s m t n).1 (sadd s m t n).2 ∧ Gr w w' := by
  obtain ⟨B1, B2, B3, G⟩ := made3 w 110 110 110 #[.bool a.neg, .slice a.mag.A a.mag.n a.mag.c] #[.bool b.neg, .slice b.mag.A b.mag.n b.mag.c] #[.bool false, .slice none 0 0]
  have hs := Lib.hid ha.neg
  have ht := Lib.hid hb.neg
  have HA := Lib.hid (ha.mag.gr G)
  have HB := Lib.hid (hb.mag.gr G)
  have HG := Lib.hid G
  have HLM := Lib.hid hm
  have HLN := Lib.hid hn
  have hB1 := Lib.hid B1
  have hB2 := Lib.hid B2
  have hB3 := Lib.hid B3
  obtain ⟨a0, a1⟩ := B1.c2
  obtain ⟨b0, b1⟩ := B2.c2
  clear ha hb hm hn G B1 B2 B3
  simp only [Iv.v]
  have HLA : Hid ((limbs m).length ≤ 400000) := Nat.le_trans HLM.out (by decide)
  have HLB : Hid ((limbs n).length ≤ 400000) := Nat.le_trans HLN.out (by decide)
  have HLP : Hid ((limbs (m + n)).length ≤ 1000000) := Nat.le_trans (limbs_add_len m n _ HLM.out HLN.out) (by decide)
  by_cases hst : s = t
  · have HE : Hid (sadd s m t n = (s && decide (0 < m + n), m + n)) := by unfold sadd; exact if_pos hst
    have hsd : (a.neg == b.neg) = true := by rw [hs.out, ht.out, hst]; simp
    go_enter Tryz.func78, Tryz.ntmps78
    go_wp2_with fail
    generalize hW : ((w.alloc (.cells #[.bool a.neg, .slice a.mag.A a.mag.n a.mag.c] 110)).alloc (.cells #[.bool b.neg, .slice b.mag.A b.mag.n b.mag.c] 110)).alloc (.cells #[.bool false, .slice none 0 0] 110) = W at *
    clear hW
    have hpr : ¬ w.heap.size = w.heap.size + 1 + 1 := by omega
    have hqr : ¬ w.heap.size + 1 = w.heap.size + 1 + 1 := by omega
    have hle : Hid (w.heap.size ≤ w.heap.size + 1 + 1) := Nat.le_trans (Nat.le_succ _) (Nat.le_succ _)
    generalize w.heap.size + 1 + 1 = r at *
    generalize w.heap.size + 1 = q at *
    generalize hp : w.heap.size = p at *
    have hPE := Lib.hid hp
    clear hp
    have hpr2 : ¬ r = p := fun e => hpr e.symm
    have hqr2 : ¬ r = q := fun e => hqr e.symm
    clear a0 a1 b0 b1
    obtain ⟨a0, a1⟩ := hB1.out.c2
    obtain ⟨b0, b1⟩ := hB2.out.c2
    have HM := Lib.hid (rnadd_any W.drew a.mag b.mag _ _ (HA.out.gr (Gr.refl W).drew) (HB.out.gr (Gr.refl W).drew) HLA.out HLB.out)
    rw [val_limbs, val_limbs] at HM
    first | (go_region_held3 (fun W => W.cell? ⟨p, 0, none⟩ = some (.bool a.neg) ∧ W.cell? ⟨p, 1, none⟩ = some (.slice a.mag.A a.mag.n a.mag.c) ∧ W.cell? ⟨q, 0, none⟩ = some (.bool b.neg) ∧ W.cell? ⟨q, 1, none⟩ = some (.slice b.mag.A b.mag.n b.mag.c)) (first | go_keep | exact ⟨hk1.1, hk1.2, hk2.1, hk2.2⟩ | exact ⟨hj1.1, hj1.2, hj2.1, hj2.2⟩)
      (first | (go_at_call 118; refine HM.out.mono ?_; rintro e w1 ⟨z, rfl, hz, G1⟩; have hk1 := (G1.bk hB1.out).c2; have hk2 := (G1.bk hB2.out).c2; have HI := Lib.hid (rimake_any w1 a.neg z _ hz HLP.out); have HBr := Lib.hid (G1.bk hB3.out); have HG1 := Lib.hid (HG.out.drew.trans G1); have hB1' := Lib.hid (G1.bk hB1.out); have hB2' := Lib.hid (G1.bk hB2.out); clear hz G1)
             | (go_at_call 82; refine HI.out.mono ?_; rintro e w2 ⟨i, rfl, hi, G2⟩; have hj1 := (G2.bk hB1'.out).c2; have hj2 := (G2.bk hB2'.out).c2; have HBs := Lib.hid (G2.bk HBr.out); obtain ⟨r0, r1⟩ := HBs.out.c2; have fz := HBs.out.frozen; have HG2 := Lib.hid (HG1.out.trans G2); have HII := Lib.hid hi; clear hi G2))) | fail
    obtain ⟨B5, F5⟩ := HBs.out.put2 (.bool i.neg) (.slice i.mag.A i.mag.n i.mag.c)
    have H5 := Lib.hid F5
    obtain ⟨d0, d1⟩ := B5.c2
    clear F5 B5
    go_wp2
    generalize (w2.setCell ⟨r, 0, none⟩ (.bool i.neg)).setCell ⟨r, 1, none⟩ (.slice i.mag.A i.mag.n i.mag.c) = W5 at *
    (try simp only [Exit.inBlock, Exit.then])
    refine bodyPost_ret (by simp [results, Tryz.results78, go_sem, d0, d1]; try rfl) rfl ?_
    exact ⟨i, rfl, by rw [HE.out]; exact ⟨by rw [HII.out.neg, hs.out], HII.out.mag.fr H5.out HBs.out (noLimb_int _ _ _ _)⟩, HG2.out.fr_at H5.out (by rw [hPE.out]; exact hle.out)⟩
  · have hsd : (a.neg == b.neg) = false := by rw [hs.out, ht.out]; simpa using hst
    have HC := Lib.hid (rnsub_any _ a.mag b.mag _ _ HA.out HB.out HLA.out HLB.out)
    rw [val_limbs, val_limbs] at HC
    have hle : Hid (w.heap.size ≤ w.heap.size + 1 + 1) := Nat.le_trans (Nat.le_succ _) (Nat.le_succ _)
    go_enter Tryz.func78, Tryz.ntmps78
    go_wp2_with fail
    go_at_call 119
    refine HC.out.mono ?_
    rintro e w1 ⟨G1, ⟨hnm, z, rfl, hz⟩ | ⟨hmn, rfl⟩⟩
    · have HG3 := Lib.hid (HG.out.trans G1)
      have HR3 := Lib.hid (G1.bk hB3.out)
      obtain ⟨x0, x1⟩ := (G1.bk hB1.out).c2
      have HE : Hid (sadd s m t n = (s && decide (0 < m - n), m - n)) := by
        unfold sadd
        rw [if_neg hst, if_neg (by omega)]
        exact rfl
      have HI := Lib.hid (rimake_any w1 a.neg z _ hz (Nat.le_trans (limbs_len_mono (Nat.sub_le m n)) (Nat.le_trans HLA.out (by decide))))
      clear hz G1 HC hB1 hB2 hB3 HG HA HB a0 a1 b0 b1 hnm
      go_wp2_with fail
      go_at_call 82
      refine HI.out.mono ?_
      rintro e w4 ⟨i, rfl, hi, G4⟩
      have HII := Lib.hid hi
      have HG4 := Lib.hid (HG3.out.trans G4)
      have HBs := Lib.hid (G4.bk HR3.out)
      obtain ⟨r0, r1⟩ := HBs.out.c2
      have fz := HBs.out.frozen
      clear hi G4 HI
      generalize w.heap.size + 1 + 1 = r at *
      obtain ⟨B5, F5⟩ := HBs.out.put2 (.bool i.neg) (.slice i.mag.A i.mag.n i.mag.c)
      have H5 := Lib.hid F5
      obtain ⟨d0, d1⟩ := B5.c2
      clear F5 B5
      go_wp2
      generalize (w4.setCell ⟨r, 0, none⟩ (.bool i.neg)).setCell ⟨r, 1, none⟩ (.slice i.mag.A i.mag.n i.mag.c) = W5 at *
      (try simp only [Exit.inBlock, Exit.then])
      refine bodyPost_ret (by simp [results, Tryz.results78, go_sem, d0, d1]; try rfl) rfl ?_
      exact ⟨i, rfl, by rw [HE.out]; exact ⟨by rw [HII.out.neg, hs.out], HII.out.mag.fr H5.out HBs.out (noLimb_int _ _ _ _)⟩, HG4.out.fr_at H5.out hle.out⟩
    · have HG2 := Lib.hid (HG.out.trans G1)
      have hC1 := Lib.hid (G1.bk hB1.out)
      have hC2 := Lib.hid (G1.bk hB2.out)
      have hC3 := Lib.hid (G1.bk hB3.out)
      obtain ⟨x0, x1⟩ := hC1.out.c2
      obtain ⟨y0, y1⟩ := hC2.out.c2
      have HE : Hid (sadd s m t n = (t && decide (0 < n - m), n - m)) := by
        unfold sadd
        rw [if_neg hst, if_pos hmn, decide_eq_true (by omega), Bool.and_true]
        exact rfl
      have HD := Lib.hid (rnsub_any w1 b.mag a.mag _ _ (HB.out.gr G1) (HA.out.gr G1) HLB.out HLA.out)
      rw [val_limbs, val_limbs] at HD
      clear G1 HC hB1 hB2 hB3 HG HA HB a0 a1 b0 b1
      go_wp2_with fail
      go_at_call 119
      refine HD.out.mono ?_
      rintro e w3 ⟨G3, ⟨_, z, rfl, hz⟩ | ⟨hx, rfl⟩⟩
      · have HG3 := Lib.hid (HG2.out.trans G3)
        have HR3 := Lib.hid (G3.bk hC3.out)
        obtain ⟨u0, u1⟩ := (G3.bk hC2.out).c2
        have HI := Lib.hid (rimake_any w3 b.neg z _ hz (Nat.le_trans (limbs_len_mono (Nat.sub_le n m)) (Nat.le_trans HLB.out (by decide))))
        clear hz G3 HD hC1 hC2 hC3 x0 x1 y0 y1 hmn
        go_wp2_with fail
        go_at_call 82
        refine HI.out.mono ?_
        rintro e w4 ⟨i, rfl, hi, G4⟩
        have HII := Lib.hid hi
        have HG4 := Lib.hid (HG3.out.trans G4)
        have HBs := Lib.hid (G4.bk HR3.out)
        obtain ⟨r0, r1⟩ := HBs.out.c2
        have fz := HBs.out.frozen
        clear hi G4 HI
        generalize w.heap.size + 1 + 1 = r at *
        obtain ⟨B5, F5⟩ := HBs.out.put2 (.bool i.neg) (.slice i.mag.A i.mag.n i.mag.c)
        have H5 := Lib.hid F5
        obtain ⟨d0, d1⟩ := B5.c2
        clear F5 B5
        go_wp2
        generalize (w4.setCell ⟨r, 0, none⟩ (.bool i.neg)).setCell ⟨r, 1, none⟩ (.slice i.mag.A i.mag.n i.mag.c) = W5 at *
        (try simp only [Exit.inBlock, Exit.then])
        refine bodyPost_ret (by simp [results, Tryz.results78, go_sem, d0, d1]; try rfl) rfl ?_
        exact ⟨i, rfl, by rw [HE.out]; exact ⟨by rw [HII.out.neg, ht.out], HII.out.mag.fr H5.out HBs.out (noLimb_int _ _ _ _)⟩, HG4.out.fr_at H5.out hle.out⟩
      · exact absurd hx (by omega)
end Go.Proofs.YtcmfepaffhnemaaGreatDoor

set_option linter.unusedVariables false
namespace Go.Proofs.YtcmfepaffhnemaaGreatDoor
open Go.RowKit

attribute [local go_sem] Oper.semAt_some
set_option maxRecDepth 100000 in
set_option maxHeartbeats 4000000 in
theorem r3add_any (w : World) (a b : Rv) (x y : Q) (ha : a.Is w x) (hb : b.Is w y) (hx : x.Ok) (hy : y.Ok) (h1 : x.num < 2147483648) (h2 : y.num < 2147483648) (h3 : x.den < 2147483648) (h4 : y.den < 2147483648) :
    Calls Tryz.prog 45 #[a.v, b.v] w fun e w' => ∃ r : Rv, e = .returned r.v ∧ r.Is w' (Q.add x y) ∧ Gr w w' := by
  obtain ⟨B1, B2, B3, G⟩ := made3 w 41 41 41 #[.bool a.neg, .slice a.num.A a.num.n a.num.c, .slice a.den.A a.den.n a.den.c] #[.bool b.neg, .slice b.num.A b.num.n b.num.c, .slice b.den.A b.den.n b.den.c] #[.bool false, .slice none 0 0, .slice none 0 0]
  have HA := Lib.hid (ha.gr G)
  have HB := Lib.hid (hb.gr G)
  have HG := Lib.hid G
  have C1 := Lib.hid B1
  have C2 := Lib.hid B2
  have C3 := Lib.hid B3
  have U1 : Hid (x.un < 2147483648) := orOne_lt h3 (by decide)
  have U2 : Hid (y.un < 2147483648) := orOne_lt h4 (by decide)
  have L : ∀ n, n < 2147483648 → (limbs n).length ≤ 400000 := fun n h => Nat.le_trans (len2 (Nat.lt_trans h (by decide))) (by decide)
  have L1 := Lib.hid (L _ h1)
  have L2 := Lib.hid (L _ h2)
  have L3 := Lib.hid (Nat.le_trans (L _ h3) (by decide : 400000 ≤ 1000000))
  have L4 := Lib.hid (Nat.le_trans (L _ h4) (by decide : 400000 ≤ 1000000))
  have L5 := Lib.hid (L _ U1.out)
  have L6 := Lib.hid (L _ U2.out)
  have bd : ∀ m n, m < 2147483648 → n < 2147483648 → m * n < 4611686018427387904 := fun m n hm hn => by
    have : m * n ≤ 2147483647 * 2147483647 := Nat.mul_le_mul (by omega) (by omega)
    omega
  have b1 := bd _ _ h1 U2.out
  have b2 := bd _ _ h2 U1.out
  have b3 := bd _ _ U1.out U2.out
  have BL1 := Lib.hid (Nat.le_trans (len2 (Nat.lt_trans b1 (by decide))) (by decide : 2 ≤ 300000))
  have BL2 := Lib.hid (Nat.le_trans (len2 (Nat.lt_trans b2 (by decide))) (by decide : 2 ≤ 300000))
  have BD := Lib.hid (Nat.lt_trans b3 (by decide : 4611686018427387904 < 18446744073709551616))
  have BQ : Hid ((sadd x.neg (x.num * y.un) y.neg (y.num * x.un)).2 < 18446744073709551616) := by
    show (sadd x.neg (x.num * y.un) y.neg (y.num * x.un)).2 < 18446744073709551616
    unfold sadd
    split
    · simp only; omega
    · split <;> simp only <;> omega
  have hE : Hid (Q.add x y = quot (sadd x.neg (x.num * y.un) y.neg (y.num * x.un)).1 (sadd x.neg (x.num * y.un) y.neg (y.num * x.un)).2 (x.un * y.un)) := by
    show Q.add x y = _
    have e : ∀ u v : Q, u.Ok → (u.sg && decide (0 < u.num * v.un)) = u.neg := fun u v hu => by
      unfold Q.sg
      by_cases h0 : u.num = 0
      · rw [h0, (hu.pos h0).1]; rfl
      · rw [decide_eq_true (by omega : 0 < u.num), decide_eq_true (Nat.mul_pos (by omega) v.un_pos), Bool.and_true, Bool.and_true]
    unfold Q.add
    rw [e _ _ hx, e _ _ hy]
  clear ha hb B1 B2 B3 G L bd b1 b2 b3 hx hy h1 h2 h3 h4
  simp only [Rv.v] at *
  go_enter Tryz.func45, Tryz.ntmps45
  go_wp2_with fail
  have h9 : ¬ w.heap.size = w.heap.size + 1 + 1 := by omega
  have h8 : ¬ w.heap.size + 1 = w.heap.size + 1 + 1 := by omega
  have hpo : Hid (w.heap.size ≤ w.heap.size + 1 + 1) := Nat.le_trans (Nat.le_succ _) (Nat.le_succ _)
  generalize hW : ((w.alloc (.cells #[.bool a.neg, .slice a.num.A a.num.n a.num.c, .slice a.den.A a.den.n a.den.c] 41)).alloc (.cells #[.bool b.neg, .slice b.num.A b.num.n b.num.c, .slice b.den.A b.den.n b.den.c] 41)).alloc (.cells #[.bool false, .slice none 0 0, .slice none 0 0] 41) = W at *
  clear hW
  generalize w.heap.size + 1 + 1 = r at *
  generalize w.heap.size + 1 = q at *
  generalize hp : w.heap.size = p at *
  have hPE := Lib.hid hp
  clear hp
  obtain ⟨a0, a1, a2⟩ := C1.out.c3
  obtain ⟨b0, b1, b2⟩ := C2.out.c3
  have HG0 : Hid (Gr W W.drew) := (Gr.refl W).drew
  have kp : Hid (∀ X, Gr W X → (fun W => W.cell? ⟨p, 0, none⟩ = some (.bool a.neg) ∧ W.cell? ⟨p, 1, none⟩ = some (.slice a.num.A a.num.n a.num.c) ∧ W.cell? ⟨p, 2, none⟩ = some (.slice a.den.A a.den.n a.den.c) ∧ W.cell? ⟨q, 0, none⟩ = some (.bool b.neg) ∧ W.cell? ⟨q, 1, none⟩ = some (.slice b.num.A b.num.n b.num.c) ∧ W.cell? ⟨q, 2, none⟩ = some (.slice b.den.A b.den.n b.den.c)) X) := fun X G => ⟨G.keep a0, G.keep a1, G.keep a2, G.keep b0, G.keep b1, G.keep b2⟩
  have HU : Hid (∀ W2, Gr W W2 → Calls Tryz.prog 77 #[.slice b.den.A b.den.n b.den.c] W2 fun e w' => ∃ u : Sv, e = .returned u.v ∧ u.Num w' (limbs y.un) ∧ Gr W2 w') := fun W2 G => rone_any W2 b.den _ (HB.out.den.gr G) L4.out
  have HM : Hid (∀ W2 {u : Sv}, Gr W W2 → u.Num W2 (limbs y.un) → Calls Tryz.prog 76 #[.slice a.num.A a.num.n a.num.c, .slice u.A u.n u.c] W2 fun e w' => ∃ z : Sv, e = .returned z.v ∧ z.Num w' (limbs (x.num * y.un)) ∧ Gr W2 w') := fun W2 u G hu => by
    have h := rnmul_any W2 a.num u _ _ (HA.out.num.gr G) hu L1.out L6.out
    rw [val_limbs, val_limbs] at h
    exact h
  go_cut [5] from 8 (fun s wx => ∃ (g : Nat) (z : Sv), s = .pointer (some ⟨g, 0, none⟩) ∧ Hid (Bk wx g 110 #[.bool a.neg, .slice z.A z.n z.c]) ∧ Hid (z.Num wx (limbs (x.num * y.un))) ∧ Hid (Gr W wx) ∧ Hid (W.heap.size ≤ g))
  case first =>
    first | (go_region_held3 (fun W => W.cell? ⟨p, 0, none⟩ = some (.bool a.neg) ∧ W.cell? ⟨p, 1, none⟩ = some (.slice a.num.A a.num.n a.num.c) ∧ W.cell? ⟨p, 2, none⟩ = some (.slice a.den.A a.den.n a.den.c) ∧ W.cell? ⟨q, 0, none⟩ = some (.bool b.neg) ∧ W.cell? ⟨q, 1, none⟩ = some (.slice b.num.A b.num.n b.num.c) ∧ W.cell? ⟨q, 2, none⟩ = some (.slice b.den.A b.den.n b.den.c))
        (first | exact kp.out _ (by first | exact HH2.out | exact HH2.out.alloc _ | exact HH1.out | exact HH1.out.alloc _ | exact HG0.out | exact HG0.out.alloc _ | exact ((Gr.refl _).alloc _).drew | exact (((HH2.out).set (Nat.le_refl _) _).set (Nat.le_refl _) _) | exact (((HH2.out).set HH1.out.size _).set HH1.out.size _) | exact (((HH2.out.alloc _).set HH2.out.size _).set HH2.out.size _) | exact (((HH2.out.alloc _).set (Nat.le_refl _) _).set (Nat.le_refl _) _)) | go_keep)
        (first | (go_at_call 76; refine (HM.out _ HH1.out hU1.out).mono ?_; rintro e v2 ⟨z, rfl, hz, G⟩; have HH2 := Lib.hid (HH1.out.trans G); have hU2 := Lib.hid (hU1.out.gr G); have hZ2 := Lib.hid hz; clear hz; (first | (have hN2 := Lib.hid (G.bk hN1.out); obtain ⟨n20, n21⟩ := hN2.out.c2; have fz := hN2.out.frozen; clear G) | clear G)) | (go_at_call 76; with_reducible show Calls _ _ _ (World.alloc _ _) _; refine (HM.out _ (HH1.out.alloc (.cells #[.bool false, .slice none 0 0] 110)) (hU1.out.gr ((Gr.refl _).alloc (.cells #[.bool false, .slice none 0 0] 110)))).mono ?_; rintro e v2 ⟨z, rfl, hz, G⟩; have HH2 := Lib.hid ((HH1.out.alloc (.cells #[.bool false, .slice none 0 0] 110)).trans G); have hU2 := Lib.hid (hU1.out.gr (((Gr.refl _).alloc (.cells #[.bool false, .slice none 0 0] 110)).trans G)); have hZ2 := Lib.hid hz; clear hz; have hN2 := Lib.hid (G.bk (Bk.made _ 110 #[.bool false, .slice none 0 0])); obtain ⟨n20, n21⟩ := hN2.out.c2; have fz := hN2.out.frozen; clear G) | (go_at_call 77; refine (HU.out _ HG0.out).mono ?_; rintro e v1 ⟨u, rfl, hu, G⟩; have HH1 := Lib.hid (HG0.out.trans G); have hU1 := Lib.hid hu; clear hu; clear G) | (go_at_call 77; with_reducible show Calls _ _ _ (World.drew (World.alloc _ _)) _; refine (HU.out _ (((Gr.refl W).alloc (.cells #[.bool false, .slice none 0 0] 110)).drew)).mono ?_; rintro e v1 ⟨u, rfl, hu, G⟩; have HH1 := Lib.hid ((((Gr.refl W).alloc (.cells #[.bool false, .slice none 0 0] 110)).drew).trans G); have hU1 := Lib.hid hu; clear hu; have hN1 := Lib.hid (G.bk ((((Gr.refl _).drew).bk (Bk.made W 110 #[.bool false, .slice none 0 0])))); obtain ⟨n10, n11⟩ := hN1.out.c2; have fz := hN1.out.frozen; clear G))) | fail
    all_goals (go_wp2_with fail; go_meet)
    · exact ⟨_, z, rfl, Lib.hid (Bk.made v2 110 #[.bool a.neg, .slice z.A z.n z.c]), Lib.hid (hZ2.out.gr ((Gr.refl _).alloc _)), Lib.hid (HH2.out.alloc _), Lib.hid HH2.out.size⟩
    · exact ⟨_, z, rfl, Lib.hid (hN2.out.put2 _ _).1, Lib.hid (hZ2.out.fr (hN2.out.put2 _ _).2 hN2.out (noLimb_int _ _ _ _)), Lib.hid ((HH2.out.set HH1.out.size _).set HH1.out.size _), Lib.hid HH1.out.size⟩
    · exact ⟨_, z, rfl, Lib.hid (hN2.out.put2 _ _).1, Lib.hid (hZ2.out.fr (hN2.out.put2 _ _).2 hN2.out (noLimb_int _ _ _ _)), Lib.hid ((HH2.out.set (Nat.le_refl _) _).set (Nat.le_refl _) _), Lib.hid (Nat.le_refl _)⟩
  case rest =>
    generalize wc = wa at *
    obtain ⟨g, z, rfl, E1, Z1, K1, le1⟩ := hcut
    have D1 := Lib.hid (K1.out.bk C1.out)
    have D2 := Lib.hid (K1.out.bk C2.out)
    have D3 := Lib.hid (K1.out.bk C3.out)
    have HA1 := Lib.hid (HA.out.gr K1.out)
    have HB1 := Lib.hid (HB.out.gr K1.out)
    clear a0 a1 a2 b0 b1 b2 HG0 kp HU HM
    obtain ⟨a0, a1, a2⟩ := D1.out.c3
    obtain ⟨b0, b1, b2⟩ := D2.out.c3
    go_wp2_with fail
    have HG0 : Hid (Gr wa wa.drew) := (Gr.refl wa).drew
    have kp : Hid (∀ X, Gr wa X → (fun W => W.cell? ⟨p, 0, none⟩ = some (.bool a.neg) ∧ W.cell? ⟨p, 1, none⟩ = some (.slice a.num.A a.num.n a.num.c) ∧ W.cell? ⟨p, 2, none⟩ = some (.slice a.den.A a.den.n a.den.c) ∧ W.cell? ⟨q, 0, none⟩ = some (.bool b.neg) ∧ W.cell? ⟨q, 1, none⟩ = some (.slice b.num.A b.num.n b.num.c) ∧ W.cell? ⟨q, 2, none⟩ = some (.slice b.den.A b.den.n b.den.c)) X) := fun X G => ⟨G.keep a0, G.keep a1, G.keep a2, G.keep b0, G.keep b1, G.keep b2⟩
    have HU : Hid (∀ W2, Gr wa W2 → Calls Tryz.prog 77 #[.slice a.den.A a.den.n a.den.c] W2 fun e w' => ∃ u : Sv, e = .returned u.v ∧ u.Num w' (limbs x.un) ∧ Gr W2 w') := fun W2 G => rone_any W2 a.den _ (HA1.out.den.gr G) L3.out
    have HM : Hid (∀ W2 {u : Sv}, Gr wa W2 → u.Num W2 (limbs x.un) → Calls Tryz.prog 76 #[.slice b.num.A b.num.n b.num.c, .slice u.A u.n u.c] W2 fun e w' => ∃ z : Sv, e = .returned z.v ∧ z.Num w' (limbs (y.num * x.un)) ∧ Gr W2 w') := fun W2 u G hu => by
      have h := rnmul_any W2 b.num u _ _ (HB1.out.num.gr G) hu L2.out L5.out
      rw [val_limbs, val_limbs] at h
      exact h
    go_cut [6] from 17 (fun s wx => ∃ (g : Nat) (z : Sv), s = .pointer (some ⟨g, 0, none⟩) ∧ Hid (Bk wx g 110 #[.bool b.neg, .slice z.A z.n z.c]) ∧ Hid (z.Num wx (limbs (y.num * x.un))) ∧ Hid (Gr wa wx) ∧ Hid (wa.heap.size ≤ g))
    case first =>
      first | (go_region_held3 (fun W => W.cell? ⟨p, 0, none⟩ = some (.bool a.neg) ∧ W.cell? ⟨p, 1, none⟩ = some (.slice a.num.A a.num.n a.num.c) ∧ W.cell? ⟨p, 2, none⟩ = some (.slice a.den.A a.den.n a.den.c) ∧ W.cell? ⟨q, 0, none⟩ = some (.bool b.neg) ∧ W.cell? ⟨q, 1, none⟩ = some (.slice b.num.A b.num.n b.num.c) ∧ W.cell? ⟨q, 2, none⟩ = some (.slice b.den.A b.den.n b.den.c))
          (first | exact kp.out _ (by first | exact HH2.out | exact HH2.out.alloc _ | exact HH1.out | exact HH1.out.alloc _ | exact HG0.out | exact HG0.out.alloc _ | exact ((Gr.refl _).alloc _).drew | exact (((HH2.out).set (Nat.le_refl _) _).set (Nat.le_refl _) _) | exact (((HH2.out).set HH1.out.size _).set HH1.out.size _) | exact (((HH2.out.alloc _).set HH2.out.size _).set HH2.out.size _) | exact (((HH2.out.alloc _).set (Nat.le_refl _) _).set (Nat.le_refl _) _)) | go_keep)
          (first | (go_at_call 76; refine (HM.out _ HH1.out hU1.out).mono ?_; rintro e v2 ⟨z, rfl, hz, G⟩; have HH2 := Lib.hid (HH1.out.trans G); have hU2 := Lib.hid (hU1.out.gr G); have hZ2 := Lib.hid hz; clear hz; (first | (have hN2 := Lib.hid (G.bk hN1.out); obtain ⟨n20, n21⟩ := hN2.out.c2; have fz := hN2.out.frozen; clear G) | clear G)) | (go_at_call 76; with_reducible show Calls _ _ _ (World.alloc _ _) _; refine (HM.out _ (HH1.out.alloc (.cells #[.bool false, .slice none 0 0] 110)) (hU1.out.gr ((Gr.refl _).alloc (.cells #[.bool false, .slice none 0 0] 110)))).mono ?_; rintro e v2 ⟨z, rfl, hz, G⟩; have HH2 := Lib.hid ((HH1.out.alloc (.cells #[.bool false, .slice none 0 0] 110)).trans G); have hU2 := Lib.hid (hU1.out.gr (((Gr.refl _).alloc (.cells #[.bool false, .slice none 0 0] 110)).trans G)); have hZ2 := Lib.hid hz; clear hz; have hN2 := Lib.hid (G.bk (Bk.made _ 110 #[.bool false, .slice none 0 0])); obtain ⟨n20, n21⟩ := hN2.out.c2; have fz := hN2.out.frozen; clear G) | (go_at_call 77; refine (HU.out _ HG0.out).mono ?_; rintro e v1 ⟨u, rfl, hu, G⟩; have HH1 := Lib.hid (HG0.out.trans G); have hU1 := Lib.hid hu; clear hu; clear G) | (go_at_call 77; with_reducible show Calls _ _ _ (World.drew (World.alloc _ _)) _; refine (HU.out _ (((Gr.refl wa).alloc (.cells #[.bool false, .slice none 0 0] 110)).drew)).mono ?_; rintro e v1 ⟨u, rfl, hu, G⟩; have HH1 := Lib.hid ((((Gr.refl wa).alloc (.cells #[.bool false, .slice none 0 0] 110)).drew).trans G); have hU1 := Lib.hid hu; clear hu; have hN1 := Lib.hid (G.bk ((((Gr.refl _).drew).bk (Bk.made wa 110 #[.bool false, .slice none 0 0])))); obtain ⟨n10, n11⟩ := hN1.out.c2; have fz := hN1.out.frozen; clear G))) | fail
      all_goals (go_wp2_with fail; go_meet)
      · exact ⟨_, z, rfl, Lib.hid (Bk.made v2 110 #[.bool b.neg, .slice z.A z.n z.c]), Lib.hid (hZ2.out.gr ((Gr.refl _).alloc _)), Lib.hid (HH2.out.alloc _), Lib.hid HH2.out.size⟩
      · exact ⟨_, z, rfl, Lib.hid (hN2.out.put2 _ _).1, Lib.hid (hZ2.out.fr (hN2.out.put2 _ _).2 hN2.out (noLimb_int _ _ _ _)), Lib.hid ((HH2.out.set HH1.out.size _).set HH1.out.size _), Lib.hid HH1.out.size⟩
      · exact ⟨_, z, rfl, Lib.hid (hN2.out.put2 _ _).1, Lib.hid (hZ2.out.fr (hN2.out.put2 _ _).2 hN2.out (noLimb_int _ _ _ _)), Lib.hid ((HH2.out.set (Nat.le_refl _) _).set (Nat.le_refl _) _), Lib.hid (Nat.le_refl _)⟩
    case rest =>
      obtain ⟨g2, z2, rfl, E2, Z2, K2, le2⟩ := hcut
      have J := Lib.hid (riadd_any wc ⟨a.neg, z⟩ ⟨b.neg, z2⟩ x.neg y.neg (x.num * y.un) (y.num * x.un) ⟨HA1.out.neg, Z1.out.gr K2.out⟩ ⟨HB1.out.neg, Z2.out⟩ BL1.out BL2.out)
      have F1 := Lib.hid (K2.out.bk E1.out)
      have HK := Lib.hid (K1.out.trans K2.out)
      have HA2 := Lib.hid (HA.out.gr HK.out)
      have HB2 := Lib.hid (HB.out.gr HK.out)
      have HS := Lib.hid (HG.out.trans HK.out)
      have c1 := Lib.hid (HK.out.bk C1.out)
      have c2 := Lib.hid (HK.out.bk C2.out)
      have c3 := Lib.hid (HK.out.bk C3.out)
      obtain ⟨e0, e1⟩ := F1.out.c2
      obtain ⟨f0, f1⟩ := E2.out.c2
      clear a0 a1 a2 b0 b1 b2 HG0 kp HU HM D1 D2 D3 C1 C2 C3 E1 E2 HA1 HB1 Z1 Z2
      simp only [Iv.v] at J
      go_wp2_with fail
      refine J.out.mono ?_
      rintro e w3 ⟨sm, rfl, hsm, G3⟩
      have D3 := Bk.made w3 110 #[.bool sm.neg, .slice sm.mag.A sm.mag.n sm.mag.c]
      have G4 := G3.alloc (.cells #[.bool sm.neg, .slice sm.mag.A sm.mag.n sm.mag.c] 110)
      have HSM := Lib.hid (hsm.gr ((Gr.refl w3).alloc (.cells #[.bool sm.neg, .slice sm.mag.A sm.mag.n sm.mag.c] 110)))
      have HG4 := Lib.hid (HS.out.trans G4)
      have C1 := Lib.hid (G4.bk c1.out)
      have C2 := Lib.hid (G4.bk c2.out)
      have C3 := Lib.hid (G4.bk c3.out)
      have HA4 := Lib.hid (HA2.out.gr G4)
      have HB4 := Lib.hid (HB2.out.gr G4)
      have C4 := Lib.hid D3
      clear hsm G3 G4 J D3 HS c1 c2 c3 HA2 HB2 e0 e1 f0 f1 F1 HK K1 K2 HA HB HG
      go_wp2_with fail
      have h7 : ¬ w3.heap.size = r := fun e => Bk.ne C4.out C3.out (by decide) e
      generalize hW : w3.alloc (.cells #[.bool sm.neg, .slice sm.mag.A sm.mag.n sm.mag.c] 110) = W at *
      clear hW
      generalize w3.heap.size = g at *
      have h6 : ¬ r = p := fun e => h9 e.symm
      have h5 : ¬ r = q := fun e => h8 e.symm
      have h4 : ¬ r = g := fun e => h7 e.symm
      obtain ⟨a0, a1, a2⟩ := C1.out.c3
      obtain ⟨b0, b1, b2⟩ := C2.out.c3
      obtain ⟨y0, y1⟩ := C4.out.c2
      have HG0 : Hid (Gr W W.drew) := (Gr.refl W).drew
      have HU1 := Lib.hid (rone_any W.drew a.den _ (HA4.out.den.gr HG0.out) L3.out)
      have HU2 : Hid (∀ W2, Gr W W2 → Calls Tryz.prog 77 #[.slice b.den.A b.den.n b.den.c] W2 fun e w' => ∃ y' : Sv, e = .returned y'.v ∧ y'.Num w' (limbs y.un) ∧ Gr W2 w') := fun W2 G => rone_any W2 b.den _ (HB4.out.den.gr G) L4.out
      first | (go_region_held3 (fun W => W.cell? ⟨p, 0, none⟩ = some (.bool a.neg) ∧ W.cell? ⟨p, 1, none⟩ = some (.slice a.num.A a.num.n a.num.c) ∧ W.cell? ⟨p, 2, none⟩ = some (.slice a.den.A a.den.n a.den.c) ∧ W.cell? ⟨q, 0, none⟩ = some (.bool b.neg) ∧ W.cell? ⟨q, 1, none⟩ = some (.slice b.num.A b.num.n b.num.c) ∧ W.cell? ⟨q, 2, none⟩ = some (.slice b.den.A b.den.n b.den.c) ∧ W.cell? ⟨g, 0, none⟩ = some (.bool sm.neg) ∧ W.cell? ⟨g, 1, none⟩ = some (.slice sm.mag.A sm.mag.n sm.mag.c))
          (first | go_keep | exact ⟨hk1.1.1, hk1.1.2.1, hk1.1.2.2, hk1.2.1.1, hk1.2.1.2.1, hk1.2.1.2.2, hk1.2.2.1, hk1.2.2.2⟩ | exact ⟨hk2.1.1, hk2.1.2.1, hk2.1.2.2, hk2.2.1.1, hk2.2.1.2.1, hk2.2.1.2.2, hk2.2.2.1, hk2.2.2.2⟩ | exact ⟨hk3.1.1, hk3.1.2.1, hk3.1.2.2, hk3.2.1.1, hk3.2.1.2.1, hk3.2.1.2.2, hk3.2.2.1, hk3.2.2.2⟩ | exact ⟨hk4.1.1, hk4.1.2.1, hk4.1.2.2, hk4.2.1.1, hk4.2.1.2.1, hk4.2.1.2.2, hk4.2.2.1, hk4.2.2.2⟩)
          (first | (go_at_call 79; refine (HQ.out).mono ?_; rintro e w7 ⟨i, rfl, hi, G8⟩; have HG8 := Lib.hid (HG7.out.trans G8); have hk4 := And.intro (HG8.out.bk C1.out).c3 (And.intro (HG8.out.bk C2.out).c3 (HG8.out.bk C4.out).c2); have HBs := Lib.hid (HG8.out.bk C3.out); obtain ⟨r0, r1, r2⟩ := HBs.out.c3; have fz := HBs.out.frozen; have HII := Lib.hid hi; rw [HSM.out.neg] at HII; clear hi G8) | (go_at_call 76; refine (HM.out).mono ?_; rintro e w6 ⟨z, rfl, hz, G7⟩; have HG7 := Lib.hid (HG6.out.trans G7); have hk3 := And.intro (HG7.out.bk C1.out).c3 (And.intro (HG7.out.bk C2.out).c3 (HG7.out.bk C4.out).c2); have HQ := Lib.hid (rquot_any w6 sm.neg sm.mag z _ _ (HSM.out.mag.gr HG7.out) hz BQ.out (Nat.mul_pos x.un_pos y.un_pos) BD.out); clear hz G7) | (go_at_call 77; refine ((HU2.out w4 HG5.out)).mono ?_; rintro e w5 ⟨v, rfl, hv, G6⟩; have HG6 := Lib.hid (HG5.out.trans G6); have hk2 := And.intro (HG6.out.bk C1.out).c3 (And.intro (HG6.out.bk C2.out).c3 (HG6.out.bk C4.out).c2); have HM := Lib.hid (rnmul_any w5 u v _ _ (HNU.out.gr G6) hv L5.out L6.out); rw [val_limbs, val_limbs] at HM; clear hv G6) | (go_at_call 77; refine (HU1.out).mono ?_; rintro e w4 ⟨u, rfl, hu, G5⟩; have HG5 := Lib.hid (HG0.out.trans G5); have hk1 := And.intro (HG5.out.bk C1.out).c3 (And.intro (HG5.out.bk C2.out).c3 (HG5.out.bk C4.out).c2); have HNU := Lib.hid hu; clear hu G5))) | fail
      obtain ⟨B5, F5⟩ := HBs.out.put3 (.bool i.neg) (.slice i.num.A i.num.n i.num.c) (.slice i.den.A i.den.n i.den.c)
      have H5 := Lib.hid F5
      obtain ⟨d0, d1, d2⟩ := B5.c3
      clear F5 B5
      go_wp2
      generalize ((w7.setCell ⟨r, 0, none⟩ (.bool i.neg)).setCell ⟨r, 1, none⟩ (.slice i.num.A i.num.n i.num.c)).setCell ⟨r, 2, none⟩ (.slice i.den.A i.den.n i.den.c) = W5 at *
      (try simp only [Exit.inBlock, Exit.then])
      refine bodyPost_ret (by simp [results, Tryz.results45, go_sem, d0, d1, d2]; try rfl) rfl ?_
      exact ⟨i, rfl, by rw [hE.out]; exact HII.out.fr H5.out HBs.out (noLimb_rat _ _ _ _ _ _ _), (HG4.out.trans HG8.out).fr_at H5.out (by rw [hPE.out]; exact hpo.out)⟩
end Go.Proofs.YtcmfepaffhnemaaGreatDoor
