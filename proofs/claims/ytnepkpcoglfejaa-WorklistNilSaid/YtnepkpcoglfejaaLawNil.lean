/- WorklistNil: the walk. -/
import Derived.Test.YtnepkpcoglfejaaNilI
import Derived.Test.YtnepkpcoglfejaaPopI
set_option linter.unusedVariables false
namespace Go.Proofs.Ytnepkpcoglfejaa
open Go.RowKit Go.Sort Go.Shelf

attribute [local go_sem] Oper.semAt_some

theorem cell_of_box_l {W : World} {B : Nat} {v : Value} {t : TypeId} (h : W.heap[B]? = some (.cells #[v] t (0, 0))) : W.cell? ⟨B, 0, none⟩ = some v ∧ W.frozen? ⟨B, 0, none⟩ = false := by
  constructor <;> simp [World.cell?, World.frozen?, h]
theorem cell_new_l (W : World) (v : Value) (t : TypeId) : (W.alloc (.cells #[v] t)).cell? ⟨W.heap.size, 0, none⟩ = some v ∧ (W.alloc (.cells #[v] t)).frozen? ⟨W.heap.size, 0, none⟩ = false :=
  cell_of_box_l (World.alloc_heap_new W _)
theorem bk_own {g t : Nat} {cs : Array Value} {W W' : World} {row : Option Nat} (h : Bk W g t cs) (hg : W.grownBy W' row) (hr : ∀ r, row = some r → ∃ o : Obj, W.heap[r]? = some o ∧ o.isCells = false) : Bk W' g t cs := by
  refine (hg.block g h.lt fun e => ?_).trans h
  obtain ⟨o, ho, hc⟩ := hr g e.symm
  unfold Bk at h
  rw [h] at ho
  injection ho with ho
  rw [← ho] at hc
  cases hc
theorem gr_own {w W W' : World} {B : Nat} {row : Option Nat} (h : Gr w W) (hB : w.heap.size ≤ B) (hg : W.grownBy W' row) (hr : ∀ r, row = some r → B ≤ r ∧ ∃ o : Obj, W.heap[r]? = some o ∧ o.isCells = false) : Gr w W' :=
  Gr.of (h.below.grown hg h.size (fun k e => Nat.le_trans hB (hr k e).1))

/-- The list of the law, its result's cell and the deferred calls. -/
structure Ni (w0 w : World) (b0 D p : Nat) (hv : Value) (E : List (Int × Int)) (N : Nat) : Prop where
  wl : WlI w p w0.heap.size (.func (.func 40) #[] #[]) hv (fun _ _ => false) E N
  gr : Gr w0 w
  hp : w0.heap.size ≤ p
  bx : Bk w b0 4 #[.bool false]
  dd : w.heap[D]? = some (.deferred (some []))
section
variable {w0 w w' : World} {b0 D p N : Nat} {hv : Value} {E : List (Int × Int)}
theorem Ni.next {hv' : Value} {E' : List (Int × Int)} {N' : Nat} (h : Ni w0 w b0 D p hv E N) (W : WlI w' p w0.heap.size (.func (.func 40) #[] #[]) hv' (fun _ _ => false) E' N') (F : Fr (fun b => False ∨ hv.ownBlock = some b ∨ b = p) w w') : Ni w0 w' b0 D p hv' E' N' := by
  obtain ⟨hs, h1, _⟩ := h.wl
  refine ⟨W, h.gr.step F fun b _ hb => ?_, h.hp, F.bk h.bx fun hb => ?_, (F.keep D (Array.getElem?_eq_some_iff.1 h.dd).1 fun hb => ?_).trans h.dd⟩
  · rcases hb with hb | e | rfl
    · exact hb.elim
    · exact (h.wl.bd.2 b e).1
    · exact h.hp
  · rcases hb with hb | e | e
    · exact hb.elim
    · exact rw_ne h1.row h.bx (by decide) e
    · exact Bk.ne h.bx h1.hd (by decide) e
  · rcases hb with hb | e | e
    · exact hb.elim
    · obtain ⟨cur, h2⟩ := rw_bk h1.row D e
      have h3 := h.dd
      rw [show w.heap[D]? = _ from h2] at h3
      cases h3
    · have h3 := h.dd
      rw [e, show w.heap[p]? = _ from h1.hd] at h3
      cases h3
end

set_option maxHeartbeats 400000 in
theorem push0 (p : Nat) (A : Option Addr) (c : Nat) (w : World) : Calls Try.prog 17 #[.pointer (some ⟨p, 0, none⟩), .slice A 0 c] w fun e w' => e = .returned (.tuple #[]) ∧ w = w' := by
  go_enter Try.func17, Try.ntmps17
  go_wp2
  go_loop [10] (fun v => v = .int .i64 0) (fun _ => 0)
  case atStart => exact rfl
  case round =>
    subst hrel
    go_wp2
    go_end0
    exact ⟨rfl, rfl⟩
theorem ni_push {w0 w : World} {b0 D p n c : Nat} {A : Option Addr} {ks : List Int} (h : Ni w0 w b0 D p (.slice none 0 0) [] 0) (hn : ks.length = n) (h60 : n ≤ 60) (hs : Sees w0 w0.heap.size A (ks.map (Value.int .i64))) :
    Calls Try.prog 17 #[.pointer (some ⟨p, 0, none⟩), .slice A n c] w fun e w' => e = .returned (.tuple #[]) ∧ ∃ hv, Ni w0 w' b0 D p hv (num ks n) n := by
  have hnp := num_push ks n (Nat.le_of_eq hn.symm)
  rw [List.take_of_length_le (Nat.le_of_eq hn)] at hnp
  by_cases h0 : n = 0
  · subst h0
    exact (push0 p A c w).mono fun _ _ ⟨h1, h2⟩ => ⟨h1, _, h2 ▸ h⟩
  · refine (pushI lessN w p w0.heap.size 0 0 n c _ A ks [] h.wl id (fun _ _ => id) h.hp (fun _ h => by cases h) (fun _ _ => trivial) hn (by simp; omega) (by omega) trivial (hs.go h.gr.below) (fun ad e => ⟨fun e' => ?_, id, fun e' => by cases e'⟩)).mono ?_
    · obtain ⟨ad', h1, h2, _⟩ := hs.look (k := 0) (by rw [List.length_map]; omega)
      rw [e] at h1
      cases h1
      have := h.hp
      omega
    · rintro e w' ⟨rfl, hv, W, _, _, F⟩
      have := h.next W F
      rw [Nat.zero_add, hnp] at this
      exact ⟨rfl, hv, this⟩

set_option maxRecDepth 100000 in
set_option maxHeartbeats 1000000 in
theorem law_nil (A : Option Addr) (n c : Nat) (ks : List Int) (w : World) (hn : ks.length = n) (hc : n ≤ c) (hs : Sees w w.heap.size A (ks.map (Value.int .i64))) :
    Calls Try.prog 8 #[.slice A n c] w fun e w' => e = .returned (.bool true) ∧ Below w.heap.size w w' := by
  have HS := Lib.hid hs
  have HN := Lib.hid hn
  clear hs hn
  refine calls_of_wp_marks Try.func8 rfl ?_
  simp only [Try.ntmps8, List.size_toArray, List.length_cons, List.length_nil, Nat.reduceAdd, Nat.reduceSub, Array.replicate_succ, Array.replicate_zero, List.push_toArray, List.append_toArray, List.nil_append, List.cons_append]
  go_wp2_with fail
  refine (awake_any _).mono ?_
  rintro e w1 ⟨rfl, hb1⟩
  have X1 : Bk w1 w.heap.size 4 #[.bool false] := Bk.below (Bk.made w 4 #[.bool false]) hb1 (by simp)
  have G1 : Gr w w1 := ((Gr.refl w).alloc _).then hb1
  have hs1 : w.heap.size < w1.heap.size := X1.lt
  clear hb1
  have c4 : w1.cell? ⟨w.heap.size, 0, none⟩ = some (.bool false) := (X1.cell 0).trans rfl
  have f4 := X1.frozen 0
  replace X1 := Lib.hid X1
  replace G1 := Lib.hid G1
  by_cases h60 : 60 < n
  · go_wp2
    have hc4 := World.cell?_setCell_same' w1 ⟨w.heap.size, 0, none⟩ (.bool true) (by rw [c4]; rfl)
    exact ⟨.bool true, by simp [results, go_sem, hc4], rfl, (G1.out.set (p := ⟨w.heap.size, 0, none⟩) (Nat.le_refl _) _).below⟩
  clear c4 f4
  go_wp2_with fail
  refine (nil_push A n c w1).mono ?_
  rintro e w' ⟨rfl, rfl⟩
  go_wp2_with fail
  refine (nil_pop w1).mono ?_
  rintro e w' ⟨rfl, rfl⟩
  go_wp2_with fail
  refine (nil_peek w1).mono ?_
  rintro e w' ⟨rfl, rfl⟩
  go_wp2_with fail
  refine (allI _ _).mono ?_
  rintro e w2 ⟨rfl, rfl⟩
  go_wp2_with fail
  have hb := cell_new_l w1 (.pointer none) 34
  refine wpIn_wide.1 (wpIn_rangeFunc_ownF (F := Fence.wide) (n := 9) rfl (by decide) (gf := 49) (lb := #[.pointer (some ⟨w1.heap.size, 0, none⟩)]) rfl trivial (enters_of Try.func49 (by kernel_rfl) rfl)
    (nil_stops 8 w1.heap.size _ (fun _ => False) (by simp) hb.1) Ky.trans Ky.put (Below.refl _ _) (fun _ => rfl)
    (fun _ W => Bk W w.heap.size 4 #[.bool false] ∧ Gr w W)
    (fun _ _ _ => False)
    (fun s W W' row hs hg hr => ⟨bk_own hs.1 hg (fun r e => (hr r e).2), gr_own hs.2 (by simp; omega) hg hr⟩)
    (fun _ _ _ _ _ hs _ _ => hs)
    ⟨X1.out.alloc _, G1.out.alloc _⟩
    ?a1 ?assign ?body ?done ?stop)
  case assign =>
    intro l x W K hK
    gi_wp2
    simpa using hK
  case body =>
    rintro l pre x W _ hlt
    simp at hlt
  case done =>
    rintro D ys W hD rfl ⟨hX, hG⟩ hK
    have hwD : w.heap.size ≤ D := by
      simp only [World.size_alloc] at hD
      omega
    have X2 := Lib.hid hX
    have G2 := Lib.hid hG
    have D2 := Lib.hid hK
    clear hD hX hG hK hb
    go_wp2_with fail
    refine (nil_len W).mono ?_
    rintro e w' ⟨rfl, rfl⟩
    go_wp2_with fail
    refine (nil_clone W).mono ?_
    rintro e w' ⟨rfl, rfl⟩
    go_wp2_with fail
    refine (nil_keep W).mono ?_
    rintro e w' ⟨rfl, rfl⟩
    go_wp2_with fail
    refine (newN W w.heap.size (fun _ _ => false)).mono ?_
    rintro e w3 ⟨rfl, W3, F3⟩
    have hwW := G2.out.size
    have N3 : Ni w w3 w.heap.size D W.heap.size (.slice none 0 0) [] 0 := ⟨W3, G2.out.no F3, hwW, F3.bk X2.out id, (F3.keep D (Array.getElem?_eq_some_iff.1 D2.out).1 id).trans D2.out⟩
    replace N3 := Lib.hid N3
    have HP := Lib.hid (ni_push (c := c) N3.out HN.out (by omega) HS.out)
    clear W3 F3 X2 G2 D2
    generalize W.heap.size = p at *
    go_wp2_with fail
    refine HP.out.mono ?_
    rintro e w4 ⟨rfl, hv4, N4⟩
    replace N4 := Lib.hid N4
    clear HP N3
    go_wp2_with fail
    go_loopw [67] (fun i wr => ∃ (t : Nat) (hv : Value), i = .int .i64 t ∧ t ≤ n ∧ Hid (Ni w wr w.heap.size D p hv ((num ks n).drop t) n)) (fun i _ => n - (intOf i).toNat)
    case atStart => exact ⟨0, hv4, rfl, Nat.zero_le _, N4⟩
    case round =>
      obtain ⟨t, hv, rfl, ht, hI⟩ := hrel
      by_cases htn : t < n
      · obtain ⟨k, hk⟩ : ∃ k, ks[t]? = some k := ⟨_, List.getElem?_eq_getElem (by rw [HN.out]; omega)⟩
        obtain ⟨ad, rfl, hab, hac⟩ := HS.out t (.int .i64 k) (by rw [List.getElem?_map, hk]; rfl)
        have cx : wr.cell? (ad.add t) = some (.int .i64 k) := (World.cell?_of_block (hI.out.gr.below.block _ (by rw [add_blk]; exact hab))).trans hac
        have hd : (num ks n).drop t = (k, (t : Int)) :: (num ks n).drop (t + 1) := by
          obtain ⟨h9, h8⟩ := List.getElem?_eq_some_iff.1 (num_at ks (t := n) htn)
          rw [List.drop_eq_getElem_cons h9, h8, List.getD_eq_getElem?_getD, hk]
          rfl
        have hP := popI lessN wr p w.heap.size n 0 hv _ hI.out.wl id (fun _ _ => id) (fun _ _ => trivial) (by rw [List.length_drop, num_len]; omega) trivial
        rw [hd] at hP
        have HP : Hid (Calls Try.prog 19 #[.pointer (some ⟨p, 0, none⟩)] wr fun e w' => e = .returned (.tuple #[.int .i64 k, .bool true]) ∧ ∃ hv', Ni w w' w.heap.size D p hv' ((num ks n).drop (t + 1)) n) := by
          refine hP.mono ?_
          rintro e w' ⟨rfl, hv', h1, _, _, h4⟩
          exact ⟨rfl, hv', hI.out.next h1 h4⟩
        clear hP hd hk hac hI
        go_wp2_with fail
        refine HP.out.mono ?_
        rintro e w5 ⟨rfl, hv', N5⟩
        replace N5 := Lib.hid N5
        go_wp2
        go_roundw
        case rel => exact ⟨t + 1, hv', by go_num, by omega, N5⟩
        case measure => simp [intOf]; omega
      · obtain rfl : t = n := by omega
        have hL := lenI wr p _ _ _ _ _ _ hI.out.wl
        rw [List.drop_of_length_le (by rw [num_len]; exact Nat.le_refl _)] at hL
        have HL := Lib.hid hL
        have c4 : wr.cell? ⟨w.heap.size, 0, none⟩ = some (.bool false) := (hI.out.bx.cell 0).trans rfl
        have f4 := hI.out.bx.frozen 0
        clear hL
        go_wp2_with fail
        refine HL.out.mono ?_
        rintro e w5 ⟨rfl, rfl⟩
        go_wp2
        have hK' := (KeepsOthers.setCell wr ⟨w.heap.size, 0, none⟩ (.bool true)).same D _ hI.out.dd rfl
        have hc5 := cell_kept (World.cell?_setCell_same' wr ⟨w.heap.size, 0, none⟩ (.bool true) (by rw [c4]; rfl)) (grownBy_putObj' _ D (.deferred none)) (fun r e => by cases e; exact ⟨_, hK', rfl⟩)
        refine ⟨by simp, .inl ⟨_, _, rfl, run_takeDeferred hK', ?_⟩⟩
        refine ⟨.bool true, ?_, rfl, ((hI.out.gr.set (p := ⟨w.heap.size, 0, none⟩) (Nat.le_refl _) (.bool true)).below).trans (belowK_b (w := w) (Nat.le_refl _) _ D _ _ hwD hK' rfl rfl)⟩
        simp [results, go_sem, hc5]
  case stop =>
    rintro D c pre W _ _ h _
    exact h.elim
end Go.Proofs.Ytnepkpcoglfejaa
