/- The walk of ScheduleJoin. -/
import Derived.Test.YtambnijbbnohfaaLawJoin
namespace Go.Proofs.Ytambnijbbnohfaa
open Go.RowKit

theorem IsRow.low {w : World} {a : Option Addr} {len cap : Nat} {zs : List Int} (h : IsRow .i64 w a len cap zs) : ∀ x ∈ zs.take len, -9223372036854775808 ≤ x := by
  rcases h with ⟨_, rfl, rfl, rfl⟩ | ⟨x, rfl, h1, h2, h3, h4, h5⟩
  · intro x hx; simp at hx
  · intro x hx
    exact (bounds_i64 (h5 x (List.mem_of_mem_take hx))).1

theorem neq_ifnil (u : TypeId) (x : Value) (w : World) : (binOp .neq 34 (.iface u x) .nilIface).run Try.prog w = .ok (.bool true) w := by kernel_rfl

theorem mk_row {B bg : Nat} {zs wl : List Int} {xs : List Nat} {vwant vl : Value} {k : Nat} {z : Int} {w : World} (h : MkRel B bg zs xs vwant wl vl w) :
    (((w.alloc (.cells #[.int .i64 k] 3)).alloc (.cells #[.int .i64 z] 3)).alloc (.cells #[.int .i64 0] 3)).ownsRow B 34 1 vl (xs.map (fv bg)).length (xs.map (fv bg)) := by
  rw [List.length_map]
  exact World.ownsRow.alloc (World.ownsRow.alloc (World.ownsRow.alloc h.row _) _) _

theorem mk_more {B bg k : Nat} {zs wl : List Int} {xs : List Nat} {vwant vl vl' : Value} {z : Int} {w w1 : World} (h : MkRel B bg zs xs vwant wl vl w) (hlen : xs.length = k) (hz : zs.getD k 0 = z)
    (hrow : w1.ownsRow B 34 1 vl' (xs.map (fv bg) ++ [fv bg w.heap.size]).length (xs.map (fv bg) ++ [fv bg w.heap.size]))
    (hkeep : ∀ b, b < (((w.alloc (.cells #[.int .i64 k] 3)).alloc (.cells #[.int .i64 z] 3)).alloc (.cells #[.int .i64 0] 3)).heap.size → vl.ownBlock ≠ some b → w1.heap[b]? = (((w.alloc (.cells #[.int .i64 k] 3)).alloc (.cells #[.int .i64 z] 3)).alloc (.cells #[.int .i64 0] 3)).heap[b]?)
    (hsz : (((w.alloc (.cells #[.int .i64 k] 3)).alloc (.cells #[.int .i64 z] 3)).alloc (.cells #[.int .i64 0] 3)).heap.size ≤ w1.heap.size) :
    MkRel B bg zs (xs ++ [w.heap.size]) vwant wl vl' w1 ∧ Bk w1 w.heap.size 3 #[.int .i64 k] ∧ Bk w1 (w.heap.size + 1) 3 #[.int .i64 z] ∧ Bk w1 (w.heap.size + 2) 3 #[.int .i64 0] := by
  have hl : ∀ b, vl.ownBlock = some b → b < w.heap.size := fun b e => (h.row.lt b e).2
  have hs3 : (((w.alloc (.cells #[.int .i64 k] 3)).alloc (.cells #[.int .i64 z] 3)).alloc (.cells #[.int .i64 0] 3)).heap.size = w.heap.size + 3 := by simp
  rw [hs3] at hkeep hsz
  have b1 : Bk (((w.alloc (.cells #[.int .i64 k] 3)).alloc (.cells #[.int .i64 z] 3)).alloc (.cells #[.int .i64 0] 3)) w.heap.size 3 #[.int .i64 k] := ((Bk.made w 3 #[.int .i64 k]).alloc _).alloc _
  have b2 : Bk (((w.alloc (.cells #[.int .i64 k] 3)).alloc (.cells #[.int .i64 z] 3)).alloc (.cells #[.int .i64 0] 3)) (w.heap.size + 1) 3 #[.int .i64 z] := by
    have := (Bk.made (w.alloc (.cells #[.int .i64 k] 3)) 3 #[.int .i64 z]).alloc (.cells #[.int .i64 0] 3)
    rwa [World.size_alloc] at this
  have b3 : Bk (((w.alloc (.cells #[.int .i64 k] 3)).alloc (.cells #[.int .i64 z] 3)).alloc (.cells #[.int .i64 0] 3)) (w.heap.size + 2) 3 #[.int .i64 0] := by
    have := Bk.made ((w.alloc (.cells #[.int .i64 k] 3)).alloc (.cells #[.int .i64 z] 3)) 3 #[.int .i64 0]
    rwa [World.size_alloc, World.size_alloc] at this
  have c1 := b1.keep (hkeep _ (by omega) (fun e => by have := hl _ e; omega))
  have c2 := b2.keep (hkeep _ (by omega) (fun e => by have := hl _ e; omega))
  have c3 := b3.keep (hkeep _ (by omega) (fun e => by have := hl _ e; omega))
  refine ⟨h.more hlen hz hrow hsz (fun b hb hne => (hkeep b (by omega) hne).trans ?_) c1 c2 c3, c1, c2, c3⟩
  exact (Below.heap_alloc _ _ _ (by simp; omega)).trans ((Below.heap_alloc _ _ _ (by simp; omega)).trans (Below.heap_alloc _ _ _ hb))

theorem mj_eq {zs : List Int} {k : Nat} {z : Int} (h : zs.getD k 0 = z) : (mj zs k : Int) = max 1 z := by
  unfold mj
  rw [h]
  omega
theorem log_le {zs : List Int} {k q n : Nat} (h : ∀ x ∈ zs, x ≤ 50) (hk : k < n) (hn : n ≤ 12) (hq : q ≤ mj zs k) : (logAt zs k q).length ≤ 1000 := by
  rw [logAt_len]
  have := wantTo_le zs h k
  have := mj_le zs k h
  omega
theorem logAt_succ (zs : List Int) (k q : Nat) : logAt zs k q ++ [(k : Int)] = logAt zs k (q + 1) := by
  simp only [logAt, List.append_assoc]
  congr 1
  exact List.replicate_succ'.symm

theorem World.ownsRow.sees6 {w : World} {B n c : Nat} {A : Option Addr} {xs : List Int} (h : OwnI w B (.slice A n c) xs) : Sees w w.heap.size A (xs.map (Value.int .i64)) := by
  obtain ⟨A', c', e, _, hs⟩ := h.form
  injection e with e1 e2 e3
  subst e1
  exact hs

set_option maxHeartbeats 400000 in
theorem join1_end (br c : Nat) (A : Option Addr) (w : World) (h : Bk w br 31 #[.slice A 0 c]) : Calls Try.prog 28 #[.pointer (some ⟨br, 0, none⟩)] w fun e w' => e = .returned (.bool true) ∧ w = w' := by
  have c1 : w.cell? ⟨br, 0, none⟩ = some (.slice A 0 c) := by rw [h.cell]; rfl
  go_enter Try.func28, Try.ntmps28
  go_wp2
  go_ret
  exact ⟨rfl, rfl⟩

/-- The joined functions behind t steps. -/
structure JR (B N bg br : Nat) (xs : List Nat) (zs : List Int) (Ar : Option Addr) (cr : Nat) (vwant : Value) (n t : Nat) (w0 : World) (w : World) : Prop where
  ex : ∃ j k : Nat, JS B N bg br xs zs Ar cr j (k : Int) (logAt zs j k) w ∧ At zs n j k (min t (wantTo zs n).length)
  want : OwnI w B vwant (wantTo zs n)
  below : Below w0.heap.size w0 w

theorem jstep_any {B N bg br : Nat} {xs : List Nat} {zs : List Int} {Ar : Option Addr} {cr : Nat} {vwant : Value} {n t : Nat} {w0 w : World} (h : JR B N bg br xs zs Ar cr vwant n t w0 w) (hB : w0.heap.size ≤ B) (hl : xs.length = n) (hn : n ≤ 12) (hz : ∀ x ∈ zs, x ≤ 50)
    (hoff : ∀ b, vwant.ownBlock = some b → b < N ∧ b ≠ br ∧ b ≠ bg ∧ ∀ x ∈ xs, b ≠ x + 2) (ht : t < max 1 (wantTo zs n).length) :
    Calls Try.prog 16 #[.func (Fn.func 28) #[] #[.pointer (some ⟨br, 0, none⟩)]] w fun e w' => e = .returned (.bool (decide (t + 1 = max 1 (wantTo zs n).length))) ∧ JR B N bg br xs zs Ar cr vwant n (t + 1) w0 w' := by
  obtain ⟨⟨j, k, hjs, hat⟩, hw, hb⟩ := h
  refine fstep_any 28 _ _ _ w Try.call28 ?_
  have hwl := wantTo_le zs hz n
  by_cases h0 : n = 0
  · subst h0
    have hx : xs = [] := List.eq_nil_of_length_eq_zero hl
    subst hx
    have e0 : (wantTo zs 0).length = 0 := rfl
    obtain ⟨Aj, hv, _⟩ := hjs.var
    have hj := hjs.hj
    obtain rfl : j = 0 := by simpa using hj
    simp only [e0] at *
    obtain rfl : t = 0 := by omega
    refine (join1_end br (cr - 0) Aj w hv).mono fun e w' ⟨he, hww⟩ => ?_
    subst hww
    exact ⟨he, ⟨0, k, hjs, (by show At zs 0 0 k (min 1 0); simpa using hat)⟩, hw, hb⟩
  · have hpos : 0 < (wantTo zs n).length := by
      have := wantTo_mono zs 0 n
      simp only [Nat.zero_add] at this
      omega
    have hmin : min t (wantTo zs n).length = t := by omega
    have hmin1 : min (t + 1) (wantTo zs n).length = t + 1 := by omega
    rw [hmin] at hat
    have hjn := hat.lt (by omega)
    have hk1 := hat.hk hjn
    have hk2 := mj_le zs j hz
    have hlog : (logAt zs j k).length ≤ 1000000 := by
      rw [logAt_len]
      have := wantTo_le zs hz j
      omega
    refine (join1_any B N bg br cr j xs zs (logAt zs j k) Ar k w hjs (by omega) (by omega) hlog (by omega) (by omega)).mono fun e w' ⟨h1, h2, h3, h4⟩ => ?_
    refine ⟨?_, ⟨_, _, ?_, by rw [hmin1]; exact hat.next hjn⟩, hw.keep fun b e => ?_, hb.trans (h3.mono hB)⟩
    · rw [h1, hl, hat.last hjn, show max 1 (wantTo zs n).length = (wantTo zs n).length from by omega]
    · rw [hat.log hjn] at h2
      have e : (((if zs.getD j 0 ≤ (k : Int) + 1 then 0 else k + 1 : Nat)) : Int) = if zs.getD j 0 ≤ (k : Int) + 1 then 0 else (k : Int) + 1 := by split <;> rfl
      rw [e]
      exact h2
    · obtain ⟨o1, o2, o3, o4⟩ := hoff b e
      exact h4 b o1 o2 o3 o4

theorem jr_end {B N bg br : Nat} {xs : List Nat} {zs : List Int} {Ar : Option Addr} {cr : Nat} {vwant : Value} {n t : Nat} {w0 w : World} (h : JR B N bg br xs zs Ar cr vwant n t w0 w) (ht : (wantTo zs n).length ≤ t) : ∃ v, Bk w bg 22 #[v] ∧ OwnI w N v (wantTo zs n) := by
  obtain ⟨⟨j, k, hjs, hat⟩, hw, hb⟩ := h
  rw [show min t (wantTo zs n).length = (wantTo zs n).length from by omega] at hat
  have := hjs.log
  rw [hat.endlog] at this
  exact this

set_option maxHeartbeats 1000000 in
theorem law_join (A : Option Addr) (n c : Nat) (zs : List Int) (w : World) (hn : zs.length = n) (hN : n ≤ maxLen) (hs : Sees w w.heap.size A (zs.map (Value.int .i64))) (hz : ∀ x ∈ zs, -9223372036854775808 ≤ x) :
    Calls Try.prog 4 #[.slice A n c] w fun e w' => e = .returned (.bool true) ∧ Below w.heap.size w w' := by
  have HN := Lib.hid hn; clear hn
  have HZ := Lib.hid hz; clear hz
  go_enter Try.func4, Try.ntmps4
  go_wp2_with fail
  refine (awake_any w).mono ?_
  rintro e w1 ⟨rfl, hb1⟩
  have hsa := hs.go hb1
  clear hs
  go_wp2_with fail
  refine (large_any A none n c 0 0 w1.heap.size zs w1 HN.out hN (by unfold maxLen; omega) hsa).mono ?_
  rintro e w1 ⟨rfl, rfl⟩
  by_cases hbig : bigB zs 0 = true
  · rw [hbig]
    go_wp2
    go_ret
    exact ⟨rfl, hb1⟩
  · have hbig' : bigB zs 0 = false := by simpa using hbig
    obtain ⟨hl1, hl2, hl3⟩ := big_out hbig'
    have HL3 := Lib.hid hl3
    have hn12 : n ≤ 12 := by rw [← HN.out]; exact hl1
    rw [hbig']
    clear hbig hbig' hl3 hl1 hl2
    have HSA := Lib.hid hsa; clear hsa
    go_wp2
    go_loopw [19, 3, 4] (fun i vwant vl wr => ∃ k xs, k ≤ n ∧ i = .int .i64 k ∧ Hid (xs.length = k) ∧ MkRel w1.heap.size w1.heap.size zs xs vwant (wantTo zs k) vl wr ∧ Below w1.heap.size w1 wr) (fun i _ _ _ => n - (intOf i).toNat)
    case atStart => exact ⟨0, [], Nat.zero_le _, rfl, rfl, MkRel.start w1 zs, (Below.refl _ _).alloc (Nat.le_refl _) _⟩
    case round =>
      obtain ⟨k, xs, hk, rfl, hxl, hmk, hb⟩ := hrel
      have hsz := hmk.size
      by_cases hlt : k < n
      · have hk1 : k < zs.length := by rw [HN.out]; exact hlt
        obtain ⟨ad, rfl, hadb, hcell⟩ := (HSA.out.below hb).look (k := k) (by simpa using hk1)
        simp only [List.getElem_map] at hcell
        obtain ⟨z, hze⟩ : ∃ z, zs[k] = z := ⟨_, rfl⟩
        have hzg : zs.getD k 0 = z := by rw [List.getD_eq_getElem?_getD, List.getElem?_eq_getElem hk1]; exact hze
        have hz1 : z ≤ 50 := by rw [← hze]; exact HL3.out _ (List.getElem_mem hk1)
        have hz2 : -9223372036854775808 ≤ z := by rw [← hze]; exact HZ.out _ (List.getElem_mem hk1)
        rw [hze] at hcell
        have HZG := Lib.hid hzg
        clear hze hzg
        have H2 := Lib.hid (mk_row hmk (k := k) (z := z))
        have H3 : Hid ((((wr.alloc (.cells #[.int .i64 k] 3)).alloc (.cells #[.int .i64 z] 3)).alloc (.cells #[.int .i64 0] 3)).heap.size = wr.heap.size + 1 + 1 + 1) := by show _ = _; simp
        have hlk : (xs.map (fv w1.heap.size)).length ≤ 12 := by rw [List.length_map, hxl.out]; omega
        go_wp2_with (at_builtin; refine wpList_app1at (w := ((wr.alloc (.cells #[.int .i64 k] 3)).alloc (.cells #[.int .i64 z] 3)).alloc (.cells #[.int .i64 0] 3)) Try.wks rfl (.tmp 24) (.tmp 27) rfl w1.heap.size u4 (xs.map (fv w1.heap.size)) (fv w1.heap.size wr.heap.size) (wr.heap.size + 1 + 1 + 1) H3.out rfl rfl H2.out rfl (by unfold maxLen; omega) (by omega) (by rw [H3.out]; omega) ?_)
        intro v' w2 hrow hkeep _ hbel
        have hbw := hbel w1.heap.size (by omega) (fun b e => (hmk.row.lt b e).1)
        obtain ⟨hmk2, q1, q2, q3⟩ := mk_more hmk hxl.out HZG.out (by rw [List.length_append, List.length_map]; exact hrow) (fun b hb hne => hkeep b (by rw [H3.out] at hb; omega) hne) hbw.size
        have hb2 : Below w1.heap.size w1 w2 := (((hb.alloc hsz _).alloc (by rw [World.size_alloc]; omega) _).alloc (by rw [World.size_alloc, World.size_alloc]; omega) _).trans hbw
        have hxl2 : Hid ((xs ++ [wr.heap.size]).length = k + 1) := by show _ = _; rw [List.length_append, hxl.out]; rfl
        have HX : Hid (∃ h : k < (xs ++ [wr.heap.size]).length, (xs ++ [wr.heap.size])[k] = wr.heap.size) := by
          refine ⟨by rw [List.length_append, hxl.out]; simp, ?_⟩
          rw [List.getElem_append_right (by rw [hxl.out]; omega)]
          simp
        generalize xs ++ [wr.heap.size] = xs2 at *
        have d2 : w2.cell? ⟨wr.heap.size + 1, 0, none⟩ = some (.int .i64 z) := by rw [q2.cell]; rfl
        clear hrow hkeep hbel hbw H2 H3 hcell hmk hb hlk
        have hmj := mj_eq HZG.out
        go_wp2
        · have hm1 : ((mj zs k : Nat) : Int) ≤ z := by omega
          have hm2 : z ≤ ((mj zs k : Nat) : Int) := by omega
          clear hmj
          obtain ⟨wo, rfl⟩ : ∃ wo : World, wo = wr := ⟨_, rfl⟩
          go_loopw [31, 3] (fun i vw wr2 => ∃ q : Nat, q ≤ mj zs k ∧ i = .int .i64 q ∧ MkRel w1.heap.size w1.heap.size zs xs2 vw (logAt zs k q) v' wr2 ∧ Below w1.heap.size w1 wr2) (fun i _ _ => mj zs k - (intOf i).toNat)
          case atStart => exact ⟨0, Nat.zero_le _, rfl, by simpa [logAt] using hmk2, hb2⟩
          case round =>
            obtain ⟨q, hq, rfl, hmk3, hb3⟩ := hrel
            have hsz3 := hmk3.size
            have d3 : wr.cell? ⟨wo.heap.size, 0, none⟩ = some (.int .i64 k) := by
              obtain ⟨hx1, hx2⟩ := HX.out
              have := hmk3.ic k hx1
              rw [hx2] at this
              rw [this.cell]; rfl
            by_cases hq1 : q < mj zs k
            · have hql : (logAt zs k q).length ≤ 1000 := log_le HL3.out hlt hn12 hq
              obtain ⟨Aw, cw, rfl, hcw, _⟩ := hmk3.want.form
              have HO : Hid (wr.ownsRow w1.heap.size 3 1 (.slice Aw (logAt zs k q).length cw) ((logAt zs k q).map (Value.int .i64)).length ((logAt zs k q).map (Value.int .i64))) := by rw [List.length_map]; exact hmk3.want
              go_wp2_with (at_builtin; refine wpList_app1at (w := wr) Try.ints rfl (.tmp 33) (.tmp 35) rfl w1.heap.size (.slice Aw (logAt zs k q).length cw) ((logAt zs k q).map (Value.int .i64)) (.int .i64 k) wr.heap.size rfl rfl rfl HO.out rfl (by rw [List.length_map]; unfold maxLen; omega) (by rw [List.length_map]; omega) hsz3 ?_)
              intro v4 w4 hrow4 hkeep4 hob4 hbel4
              have hbw4 := hbel4 w1.heap.size hsz3 (fun b e => (hmk3.want.lt b e).1)
              have hdone := hmk3.wants (own_app (xs := logAt zs k q) (ys := [(k : Int)]) (by rw [List.length_append, List.length_map]; exact hrow4)) hkeep4 hbw4.size hob4
              rw [logAt_succ] at hdone
              have hb4 := hb3.trans hbw4
              clear hrow4 hkeep4 hob4 hbel4 hbw4 HO hmk3 hb3
              go_wp2
              go_roundw
              case rel => exact ⟨q + 1, by omega, by go_num, hdone, hb4⟩
              case measure => simp [intOf]; omega
            · obtain rfl : q = mj zs k := by omega
              have hmk4 : MkRel w1.heap.size w1.heap.size zs xs2 u3 (wantTo zs (k + 1)) v' wr := hmk3
              clear hmk3
              go_wp2
              go_roundw
              case rel => exact ⟨k + 1, xs2, by omega, by go_num, hxl2, hmk4, hb3⟩
              case measure => simp [intOf]; omega
        · have hm1 : ((mj zs k : Nat) : Int) ≤ 1 := by omega
          have hm2 : (1 : Int) ≤ ((mj zs k : Nat) : Int) := by omega
          clear hmj
          obtain ⟨wo, rfl⟩ : ∃ wo : World, wo = wr := ⟨_, rfl⟩
          go_loopw [31, 3] (fun i vw wr2 => ∃ q : Nat, q ≤ mj zs k ∧ i = .int .i64 q ∧ MkRel w1.heap.size w1.heap.size zs xs2 vw (logAt zs k q) v' wr2 ∧ Below w1.heap.size w1 wr2) (fun i _ _ => mj zs k - (intOf i).toNat)
          case atStart => exact ⟨0, Nat.zero_le _, rfl, by simpa [logAt] using hmk2, hb2⟩
          case round =>
            obtain ⟨q, hq, rfl, hmk3, hb3⟩ := hrel
            have hsz3 := hmk3.size
            have d3 : wr.cell? ⟨wo.heap.size, 0, none⟩ = some (.int .i64 k) := by
              obtain ⟨hx1, hx2⟩ := HX.out
              have := hmk3.ic k hx1
              rw [hx2] at this
              rw [this.cell]; rfl
            by_cases hq1 : q < mj zs k
            · have hql : (logAt zs k q).length ≤ 1000 := log_le HL3.out hlt hn12 hq
              obtain ⟨Aw, cw, rfl, hcw, _⟩ := hmk3.want.form
              have HO : Hid (wr.ownsRow w1.heap.size 3 1 (.slice Aw (logAt zs k q).length cw) ((logAt zs k q).map (Value.int .i64)).length ((logAt zs k q).map (Value.int .i64))) := by rw [List.length_map]; exact hmk3.want
              go_wp2_with (at_builtin; refine wpList_app1at (w := wr) Try.ints rfl (.tmp 33) (.tmp 35) rfl w1.heap.size (.slice Aw (logAt zs k q).length cw) ((logAt zs k q).map (Value.int .i64)) (.int .i64 k) wr.heap.size rfl rfl rfl HO.out rfl (by rw [List.length_map]; unfold maxLen; omega) (by rw [List.length_map]; omega) hsz3 ?_)
              intro v4 w4 hrow4 hkeep4 hob4 hbel4
              have hbw4 := hbel4 w1.heap.size hsz3 (fun b e => (hmk3.want.lt b e).1)
              have hdone := hmk3.wants (own_app (xs := logAt zs k q) (ys := [(k : Int)]) (by rw [List.length_append, List.length_map]; exact hrow4)) hkeep4 hbw4.size hob4
              rw [logAt_succ] at hdone
              have hb4 := hb3.trans hbw4
              clear hrow4 hkeep4 hob4 hbel4 hbw4 HO hmk3 hb3
              go_wp2
              go_roundw
              case rel => exact ⟨q + 1, by omega, by go_num, hdone, hb4⟩
              case measure => simp [intOf]; omega
            · obtain rfl : q = mj zs k := by omega
              have hmk4 : MkRel w1.heap.size w1.heap.size zs xs2 u3 (wantTo zs (k + 1)) v' wr := hmk3
              clear hmk3
              go_wp2
              go_roundw
              case rel => exact ⟨k + 1, xs2, by omega, by go_num, hxl2, hmk4, hb3⟩
              case measure => simp [intOf]; omega
      · obtain rfl : k = n := by omega
        have hvl : ∃ Aw cw, u4 = .slice Aw k cw ∧ Sees wr wr.heap.size Aw (xs.map (fv w1.heap.size)) := by
          have h := hmk.row
          obtain ⟨_, ⟨rfl, h0⟩ | ⟨g, cap, cur, rfl, _⟩⟩ := id h
          · have : xs = [] := List.eq_nil_of_length_eq_zero h0
            subst this
            exact ⟨none, 0, by rw [← hxl.out]; rfl, Sees.nil⟩
          · exact ⟨_, cap, by rw [hxl.out], Sees.own h⟩
        obtain ⟨Aw, cw, rfl, hsw⟩ := hvl
        have H1 := Lib.hid (join_any Aw k cw wr.heap.size (xs.map (fv w1.heap.size)) wr (by rw [List.length_map]; exact hxl.out) (by omega) hsw (fun u hu => by simp only [List.mem_map] at hu; obtain ⟨x, _, rfl⟩ := hu; rfl))
        have he := eql_ifnil
        go_wp2_with fail
        refine H1.out.mono ?_
        rintro e w3 ⟨⟨br, vr, rfl, hbr, hvar, hrow⟩, hb3⟩
        have hvr : ∃ Ar cr, vr = .slice Ar k cr := by
          obtain ⟨_, ⟨rfl, h0⟩ | ⟨g, cap, cur, rfl, _⟩⟩ := id hrow
          · exact ⟨none, 0, by rw [List.length_map, hxl.out] at h0; rw [h0]⟩
          · exact ⟨_, cap, by rw [List.length_map, hxl.out]⟩
        obtain ⟨Ar, cr, rfl⟩ := hvr
        obtain ⟨hjs, hwant, hoff⟩ := hmk.join (by rw [hxl.out]; exact HN.out.symm) hxl.out hb3 hbr hvar hrow
        have hb4 := hb1.trans ((hb.trans (hb3.mono hsz)).mono hb1.size)
        have HOFF := Lib.hid hoff
        have hwl := wantTo_le zs HL3.out k
        obtain ⟨Av, cv, rfl, hcv, _⟩ := hwant.form
        clear H1 hoff hvar hrow hsw hmk hb hb3
        generalize w3.heap.size = N at *
        have HJ : Hid (JR w1.heap.size N w1.heap.size br xs zs Ar cr (.slice Av (wantTo zs k).length cv) k 0 w w3) := ⟨⟨0, 0, hjs, by simpa using At.start zs k⟩, hwant, hb4⟩
        clear hjs hwant hb4 hcv
        go_wp2
        · have hX1 : (max 1 (wantTo zs k).length : Nat) ≤ (wantTo zs k).length := by omega
          have hX2 : (wantTo zs k).length ≤ (max 1 (wantTo zs k).length : Nat) := by omega
          go_loopw [47, 11] (fun i _ wr2 => ∃ t : Nat, t ≤ max 1 (wantTo zs k).length ∧ i = .int .i64 t ∧ JR w1.heap.size N w1.heap.size br xs zs Ar cr (.slice Av (wantTo zs k).length cv) k t w wr2) (fun i _ _ => max 1 (wantTo zs k).length - (intOf i).toNat)
          case atStart => exact ⟨0, Nat.zero_le _, rfl, HJ.out⟩
          case round =>
            obtain ⟨t, ht, rfl, hjr⟩ := hrel
            by_cases ht1 : t < max 1 (wantTo zs k).length
            · have hlt' : (t : Int) < ((wantTo zs k).length : Int) := by omega
              have H5 := Lib.hid (jstep_any hjr hb1.size hxl.out hn12 HL3.out HOFF.out ht1)
              by_cases hlast : t + 1 = max 1 (wantTo zs k).length
              · have hd : decide (t + 1 = max 1 (wantTo zs k).length) = true := by simpa using hlast
                rw [hd] at H5
                have hq : ((t : Int) == ((wantTo zs k).length : Int) - 1) = true := by rw [beq_iff_eq]; omega
                clear hd hlast
                go_wp2_with fail
                refine H5.out.mono ?_
                rintro e w6 ⟨rfl, hjr6⟩
                clear H5 hjr
                have HJ6 := Lib.hid hjr6; clear hjr6
                go_wp2
                go_roundw
                case rel => exact ⟨t + 1, by omega, by go_num, HJ6.out⟩
                case measure => simp [intOf]; omega
              · have hd : decide (t + 1 = max 1 (wantTo zs k).length) = false := by simpa using hlast
                rw [hd] at H5
                have hq : ((t : Int) == ((wantTo zs k).length : Int) - 1) = false := by rw [beq_eq_false_iff_ne]; omega
                clear hd hlast
                go_wp2_with fail
                refine H5.out.mono ?_
                rintro e w6 ⟨rfl, hjr6⟩
                clear H5 hjr
                have HJ6 := Lib.hid hjr6; clear hjr6
                go_wp2
                go_roundw
                case rel => exact ⟨t + 1, by omega, by go_num, HJ6.out⟩
                case measure => simp [intOf]; omega
            · have hge : ¬ (t : Int) < ((wantTo zs k).length : Int) := by omega
              obtain ⟨vlog, hlg, hlo⟩ := jr_end hjr (by omega)
              have hw6 := hjr.want
              have hb6 := hjr.below
              clear hjr HJ
              obtain ⟨Al, cl, rfl, hcl, hsl⟩ := hlo.form
              have hsw6 := (World.ownsRow.sees6 hw6)
              have d1 : wr.cell? ⟨w1.heap.size, 0, none⟩ = some (.slice Al (wantTo zs k).length cl) := by rw [hlg.cell]; rfl
              have H7 := Lib.hid (same_any Al Av (wantTo zs k).length cl (wantTo zs k).length cv wr.heap.size (wantTo zs k) (wantTo zs k) wr rfl rfl (by unfold maxLen; omega) (by unfold maxLen; omega) hsl hsw6)
              clear hlg hlo hsl hsw6 hw6
              go_wp2_with fail
              refine H7.out.mono ?_
              rintro e w7 ⟨rfl, hb7⟩
              have hb8 := hb6.trans (hb7.mono hb6.size)
              clear H7 hb6 hb7 d1
              simp only [decide_true]
              go_wp2_with fail
              refine (fstep_nil w7).mono ?_
              rintro e w7 ⟨rfl, rfl⟩
              go_wp2_with fail
              have H9 := join_any (some ⟨w7.heap.size, 0, none⟩) 2 2 _ [.nilIface, .nilIface] (w7.alloc (.cells #[.nilIface, .nilIface] 34)) rfl (by omega) ((Bk.made w7 34 #[.nilIface, .nilIface]).sees ⟨[], rfl⟩) (by intro u hu; simp at hu; subst hu; rfl)
              refine H9.mono ?_
              rintro e w9 ⟨⟨br9, v9, rfl, _, _, _⟩, hb9⟩
              have hb10 := hb8.trans (((Below.refl _ _).alloc (Nat.le_refl _) _).trans (hb9.mono (by rw [World.size_alloc]; omega)) |>.mono hb8.size)
              clear hb8 hb9
              have hne := neq_ifnil
              go_wp2
              go_ret
              exact ⟨rfl, hb10⟩
        · have hX1 : (max 1 (wantTo zs k).length : Nat) ≤ 1 := by omega
          have hX2 : 1 ≤ (max 1 (wantTo zs k).length : Nat) := by omega
          go_loopw [47, 11] (fun i _ wr2 => ∃ t : Nat, t ≤ max 1 (wantTo zs k).length ∧ i = .int .i64 t ∧ JR w1.heap.size N w1.heap.size br xs zs Ar cr (.slice Av (wantTo zs k).length cv) k t w wr2) (fun i _ _ => max 1 (wantTo zs k).length - (intOf i).toNat)
          case atStart => exact ⟨0, Nat.zero_le _, rfl, HJ.out⟩
          case round =>
            obtain ⟨t, ht, rfl, hjr⟩ := hrel
            by_cases ht1 : t < max 1 (wantTo zs k).length
            · have hlt' : (t : Int) < (1 : Int) := by omega
              have H5 := Lib.hid (jstep_any hjr hb1.size hxl.out hn12 HL3.out HOFF.out ht1)
              by_cases hlast : t + 1 = max 1 (wantTo zs k).length
              · have hd : decide (t + 1 = max 1 (wantTo zs k).length) = true := by simpa using hlast
                rw [hd] at H5
                have hq : ((t : Int) == 0) = true := by rw [beq_iff_eq]; omega
                clear hd hlast
                go_wp2_with fail
                refine H5.out.mono ?_
                rintro e w6 ⟨rfl, hjr6⟩
                clear H5 hjr
                have HJ6 := Lib.hid hjr6; clear hjr6
                go_wp2
                go_roundw
                case rel => exact ⟨t + 1, by omega, by go_num, HJ6.out⟩
                case measure => simp [intOf]; omega
              · have hd : decide (t + 1 = max 1 (wantTo zs k).length) = false := by simpa using hlast
                rw [hd] at H5
                have hq : ((t : Int) == 0) = false := by rw [beq_eq_false_iff_ne]; omega
                clear hd hlast
                go_wp2_with fail
                refine H5.out.mono ?_
                rintro e w6 ⟨rfl, hjr6⟩
                clear H5 hjr
                have HJ6 := Lib.hid hjr6; clear hjr6
                go_wp2
                go_roundw
                case rel => exact ⟨t + 1, by omega, by go_num, HJ6.out⟩
                case measure => simp [intOf]; omega
            · have hge : ¬ (t : Int) < (1 : Int) := by omega
              obtain ⟨vlog, hlg, hlo⟩ := jr_end hjr (by omega)
              have hw6 := hjr.want
              have hb6 := hjr.below
              clear hjr HJ
              obtain ⟨Al, cl, rfl, hcl, hsl⟩ := hlo.form
              have hsw6 := (World.ownsRow.sees6 hw6)
              have d1 : wr.cell? ⟨w1.heap.size, 0, none⟩ = some (.slice Al (wantTo zs k).length cl) := by rw [hlg.cell]; rfl
              have H7 := Lib.hid (same_any Al Av (wantTo zs k).length cl (wantTo zs k).length cv wr.heap.size (wantTo zs k) (wantTo zs k) wr rfl rfl (by unfold maxLen; omega) (by unfold maxLen; omega) hsl hsw6)
              clear hlg hlo hsl hsw6 hw6
              go_wp2_with fail
              refine H7.out.mono ?_
              rintro e w7 ⟨rfl, hb7⟩
              have hb8 := hb6.trans (hb7.mono hb6.size)
              clear H7 hb6 hb7 d1
              simp only [decide_true]
              go_wp2_with fail
              refine (fstep_nil w7).mono ?_
              rintro e w7 ⟨rfl, rfl⟩
              go_wp2_with fail
              have H9 := join_any (some ⟨w7.heap.size, 0, none⟩) 2 2 _ [.nilIface, .nilIface] (w7.alloc (.cells #[.nilIface, .nilIface] 34)) rfl (by omega) ((Bk.made w7 34 #[.nilIface, .nilIface]).sees ⟨[], rfl⟩) (by intro u hu; simp at hu; subst hu; rfl)
              refine H9.mono ?_
              rintro e w9 ⟨⟨br9, v9, rfl, _, _, _⟩, hb9⟩
              have hb10 := hb8.trans (((Below.refl _ _).alloc (Nat.le_refl _) _).trans (hb9.mono (by rw [World.size_alloc]; omega)) |>.mono hb8.size)
              clear hb8 hb9
              have hne := neq_ifnil
              go_wp2
              go_ret
              exact ⟨rfl, hb10⟩

end Go.Proofs.Ytambnijbbnohfaa
