/- WorklistCost: the walk. -/
import Derived.Test.YtnepkpcoglfejaaAwake
import Derived.Test.YtnepkpcoglfejaaPopI
import Derived.Test.YtnepkpcoglfejaaDigits
import Derived.IntWalk
namespace Go.Proofs.Ytnepkpcoglfejaa
open Go.RowKit Go.Sort Go.Shelf

/-- The list whose 'less' counts its calls in the cell q. -/
structure Co (w0 w : World) (p q : Nat) (hv : Value) (E : List (Int × Int)) (N : Nat) : Prop where
  wl : WlI w p w0.heap.size (.func (.func 16) #[] #[.pointer (some ⟨q, 0, none⟩)]) hv ltI E N
  gr : Gr w0 w
  hp : w0.heap.size ≤ p
  hq : w0.heap.size ≤ q
  bx : ∃ v : Int, Bk w q 3 #[.int .i64 v]
section
variable {w0 w w' : World} {p q N : Nat} {hv : Value} {E : List (Int × Int)}
theorem Co.ne (h : Co w0 w p q hv E N) : p ≠ q ∧ ∀ b, hv.ownBlock = some b → b ≠ q := by
  obtain ⟨v, hb⟩ := h.bx
  obtain ⟨hs, h1, _⟩ := h.wl
  exact ⟨Bk.ne h1.hd hb (by decide), fun b e e' => rw_ne h1.row hb (by decide) (e' ▸ e)⟩
theorem Co.zero (h : Co w0 w p q hv E N) (v : Int) : Co w0 (w.setCell ⟨q, 0, none⟩ (.int .i64 v)) p q hv E N ∧ Bk (w.setCell ⟨q, 0, none⟩ (.int .i64 v)) q 3 #[.int .i64 v] := by
  obtain ⟨u, hb⟩ := h.bx
  have hF : Fr (fun b => b = q) w (w.setCell ⟨q, 0, none⟩ (.int .i64 v)) := Fr.set _ _ _ rfl
  have hb' : Bk (w.setCell ⟨q, 0, none⟩ (.int .i64 v)) q 3 #[.int .i64 v] := Bk.put hb 0 _
  exact ⟨⟨h.wl.fr hF h.ne.1 h.ne.2, h.gr.step hF fun b _ e => by rw [e]; exact h.hq, h.hp, h.hq, v, hb'⟩, hb'⟩
theorem Co.next {X : Nat → Prop} {hv' : Value} {E' : List (Int × Int)} {N' k : Nat} (h : Co w0 w p q hv E N) (W : WlI w' p w0.heap.size (.func (.func 16) #[] #[.pointer (some ⟨q, 0, none⟩)]) hv' ltI E' N') (J : Jc q k w') (hk : k ≤ 1000000) (F : Fr X w w') (hX : ∀ b, X b → b = q ∨ hv.ownBlock = some b ∨ b = p) : ∃ v : Int, Co w0 w' p q hv' E' N' ∧ Bk w' q 3 #[.int .i64 v] ∧ 0 ≤ v ∧ v ≤ k := by
  obtain ⟨v, hb, hv⟩ := J
  obtain ⟨h1, h2⟩ := hv (by omega)
  refine ⟨v, ⟨W, h.gr.step F fun b _ hb => ?_, h.hp, h.hq, v, hb⟩, hb, h1, h2⟩
  rcases hX b hb with rfl | e | rfl
  · exact h.hq
  · exact (h.wl.bd.2 b e).1
  · exact h.hp
theorem co_push (h : Co w0 w p q hv E N) (hb : Bk w q 3 #[.int .i64 0]) (k : Int) (hl : E.length ≤ 1000) (hN : N ≤ 1000) :
    Calls Try.prog 17 #[.pointer (some ⟨p, 0, none⟩), .slice (some ⟨w.heap.size, 0, none⟩) 1 1] (w.alloc (.cells #[.int .i64 k] 3)) fun e w' => e = .returned (.tuple #[]) ∧ ∃ (v : Int) (hv' : Value), Co w0 w' p q hv' (ins (bfr ltI) (k, (N : Int)) E) (N + 1) ∧ Bk w' q 3 #[.int .i64 v] ∧ 0 ≤ v ∧ v ≤ 2 * dg (E.length + 1) := by
  have hb2 : Bk (w.alloc (.cells #[.int .i64 k] 3)) q 3 #[.int .i64 0] := hb.alloc _
  have h2 : Co w0 (w.alloc (.cells #[.int .i64 k] 3)) p q hv E N := ⟨h.wl.fr (Fr.alloc (fun _ => False) _ _) id (fun _ _ => id), h.gr.alloc _, h.hp, h.hq, 0, hb2⟩
  have hdg := dg_le (E.length + 1)
  refine (pushI (lessC q) _ p _ N 0 1 1 hv _ [k] E h2.wl h.ne.1 h.ne.2 h.hp (fun _ _ => trivial) (fun _ _ => trivial) rfl (by omega) (by omega) ⟨0, hb2, fun _ => ⟨Int.le_refl _, Int.le_refl _⟩⟩ ?_ ?_).mono ?_
  · exact Bk.sees (Bk.made w 3 #[.int .i64 k]) (by simp)
  · rintro ad ⟨⟩
    refine ⟨fun e => ?_, fun e => ?_, fun e => ?_⟩
    · have := h.wl.bd.1
      simp at e
      omega
    · have := hb.lt
      simp at e
      omega
    · have := (h.wl.bd.2 _ e).2
      simp at this
  · rintro e w' ⟨rfl, hv', W, _, J, F⟩
    obtain ⟨v, h3, h4, h5, h6⟩ := h2.next W J (by omega) F (fun b h => h)
    exact ⟨rfl, v, hv', h3, h4, h5, by omega⟩
theorem co_pop (h : Co w0 w p q hv E N) (hb : Bk w q 3 #[.int .i64 0]) (hl : E.length ≤ 1000) :
    Calls Try.prog 19 #[.pointer (some ⟨p, 0, none⟩)] w fun e w' => e = .returned (.tuple #[encXI (hdI E), .bool !E.isEmpty]) ∧ ∃ (v : Int) (hv' : Value), Co w0 w' p q hv' E.tail N ∧ Bk w' q 3 #[.int .i64 v] ∧ 0 ≤ v ∧ v ≤ 4 * dg E.length := by
  have hdg := dg_le E.length
  refine (popI (lessC q) w p _ N 0 hv E h.wl h.ne.1 h.ne.2 (fun _ _ => trivial) (by omega) ⟨0, hb, fun _ => ⟨Int.le_refl _, Int.le_refl _⟩⟩).mono ?_
  rintro e w' ⟨rfl, hv', W, _, J, F⟩
  obtain ⟨v, h3, h4, h5, h6⟩ := h.next W J (by omega) F (fun b h => h)
  exact ⟨rfl, v, hv', h3, h4, h5, by omega⟩
theorem co_len (h : Co w0 w p q hv E N) : Calls Try.prog 20 #[.pointer (some ⟨p, 0, none⟩)] w fun e w' => e = .returned (.int .i64 E.length) ∧ w = w' := lenI w p _ N _ hv ltI E h.wl
theorem Co.drewN (h : Co w0 w p q hv E N) (n : Nat) : Co w0 (w.drewN n) p q hv E N := ⟨h.wl.fr (Fr.drewN (fun _ => False) w n) id (fun _ _ => id), h.gr.no (Fr.drewN _ _ _), h.hp, h.hq, h.bx⟩
end

set_option maxRecDepth 100000 in
set_option maxHeartbeats 1000000 in
theorem law_cost (A : Option Addr) (n c : Nat) (ks : List Int) (w : World) (hn : ks.length = n) (hc : n ≤ c) (hs : Sees w w.heap.size A (ks.map (Value.int .i64))) :
    Calls Try.prog 4 #[.slice A n c] w fun e w' => e = .returned (.bool true) ∧ Below w.heap.size w w' := by
  have HS := Lib.hid hs
  have HN := Lib.hid hn
  clear hs hn
  go_enter Try.func4, Try.ntmps4
  go_wp2_with fail
  refine (awake_any w).mono ?_
  rintro e w1 ⟨rfl, hb1⟩
  have G1 := Lib.hid (Gr.of hb1)
  clear hb1
  by_cases h200 : 200 < n
  · go_wp2
    go_ret
    exact ⟨rfl, G1.out.below⟩
  have hst : Hid (∀ w', Fr (fun _ => False) (w1.alloc (.cells #[.int .i64 0] 3)) w' → WlI w' (w1.alloc (.cells #[.int .i64 0] 3)).heap.size w.heap.size (.func (.func 16) #[] #[.pointer (some ⟨w1.heap.size, 0, none⟩)]) (.slice none 0 0) ltI [] 0 → Co w w' (w1.heap.size + 1) w1.heap.size (.slice none 0 0) [] 0) := fun w' F W => by
    have := G1.out.size
    rw [World.size_alloc] at W
    exact ⟨W, (G1.out.alloc _).no F, by omega, this, 0, F.bk (Bk.made _ _ _) id⟩
  go_wp2_with fail
  refine (newI _ 16 w.heap.size _ ltI).mono ?_
  rw [World.size_alloc]
  rintro e w2 ⟨rfl, W2, F2⟩
  have C2 := Lib.hid (hst.out w2 F2 (by rw [World.size_alloc]; exact W2))
  clear F2 G1 hst W2
  generalize w1.heap.size = q at *
  generalize hp : q + 1 = p at *
  clear hp
  go_wp2_with fail
  go_loopw [19] (fun i wr => ∃ t hv, i = .int .i64 (t : Nat) ∧ t ≤ n ∧ Hid (Co w wr p q hv (pushAll ltI (ks.take t) [] 0) t)) (fun i _ => n - (intOf i).toNat)
  case atStart => exact ⟨0, _, rfl, Nat.zero_le _, C2⟩
  case round =>
    obtain ⟨t, hv, rfl, ht, hE⟩ := hrel
    by_cases htn : t < n
    · obtain ⟨k, hk⟩ : ∃ k, ks[t]? = some k := ⟨_, List.getElem?_eq_getElem (by rw [HN.out]; omega)⟩
      obtain ⟨ad, rfl, hab, hac⟩ := HS.out t (.int .i64 k) (by rw [List.getElem?_map, hk]; rfl)
      have cx : wr.cell? (ad.add t) = some (.int .i64 k) := (World.cell?_of_block (hE.out.gr.below.block _ (by rw [add_blk]; exact hab))).trans hac
      obtain ⟨E1, b1⟩ := hE.out.zero 0
      have htk : (ks.take t).length = t := by rw [List.length_take, HN.out]; omega
      have hel : (pushAll ltI (ks.take t) [] 0).length = t := by rw [pushAll_len, htk]; simp
      have hP := co_push E1 b1 k (by rw [hel]; omega) (by omega)
      rw [hel, show (wr.setCell ⟨q, 0, none⟩ (.int .i64 0)).heap.size = wr.heap.size by simp] at hP
      have HEN : Hid (ins (bfr ltI) (k, (t : Int)) (pushAll ltI (ks.take t) [] 0) = pushAll ltI (ks.take (t + 1)) [] 0) := by
        rw [List.take_add_one, hk]
        have := pushAll_snoc ltI (ks.take t) k [] 0
        rw [htk, Nat.zero_add] at this
        exact this.symm
      have HP := Lib.hid hP
      obtain ⟨u, bu⟩ := hE.out.bx
      have cq : wr.cell? ⟨q, 0, none⟩ = some (.int .i64 u) := (bu.cell 0).trans rfl
      have fq := bu.frozen 0
      have hd1 := dg_le t
      have hd2 := dg_succ t
      clear hP hk hac hel htk E1 b1 bu
      go_wp2_with fail
      refine HP.out.mono ?_
      rintro e w3 ⟨rfl, v, hv', E3, b3, h0, h1⟩
      rw [HEN.out] at E3
      have c3 : w3.cell? ⟨q, 0, none⟩ = some (.int .i64 v) := (b3.cell 0).trans rfl
      have HDG := Lib.hid (fun W => digits_any t (by omega) W)
      replace E3 := Lib.hid E3
      clear b3 HP cq fq HEN
      have h1' : ¬ 4 + 4 * (dg t : Int) < v := by omega
      generalize dg t = d at *
      have hw1' : IntKind.i64.wrap (4 * (d : Int)) = 4 * (d : Int) := IntWalk.i64_in _ (by omega)
      have hw2' : IntKind.i64.wrap (4 + 4 * (d : Int)) = 4 + 4 * (d : Int) := IntWalk.i64_in _ (by omega)
      go_wp2_with fail
      go_quiet ((go_at_call 18; exact Calls.quiet_of_same (HDG.out _)))
      clear hw1' hw2'
      have E4 := Lib.hid (E3.out.drewN nq)
      go_wp2
      go_roundw
      case rel => exact ⟨t + 1, hv', by go_num, by omega, E4⟩
      case measure => simp [intOf]; omega
    · obtain rfl : t = n := by omega
      have hel : Hid ((pushAll ltI (ks.take t) [] 0).length = t) := by
        have h9 : (ks.take t).length = t := by rw [List.length_take, HN.out, Nat.min_self]
        have := pushAll_len ltI (ks.take t) [] 0
        rw [h9, List.length_nil, Nat.zero_add] at this
        exact this
      generalize pushAll ltI (ks.take t) [] 0 = E0 at *
      clear C2 ht htn
      go_wp2_with fail
      go_loopw [7] (fun i wx => ∃ (m : Nat) (hv : Value) (E : List (Int × Int)), i = .int .i64 m ∧ m ≤ t ∧ Hid (Co w wx p q hv E t) ∧ Hid (E.length = m)) (fun i _ => (intOf i).toNat)
      case atStart => exact ⟨t, hv, E0, rfl, Nat.le_refl _, hE, hel⟩
      case round =>
        obtain ⟨m, hv1, E, rfl, hm, hC, hl⟩ := hrel
        by_cases h0 : 0 < m
        · obtain ⟨C1, b1⟩ := hC.out.zero 0
          have hP := co_pop C1 b1 (by rw [hl.out]; omega)
          have hem : E.isEmpty = false := by
            cases E with
            | nil => have := hl.out; simp at this; omega
            | cons => rfl
          have htl : Hid (E.tail.length = m - 1) := by rw [List.length_tail, hl.out]; exact rfl
          rw [hl.out, hem] at hP
          generalize hdI E = x at *
          have HP := Lib.hid hP
          obtain ⟨u, bu⟩ := hC.out.bx
          have cq : wr.cell? ⟨q, 0, none⟩ = some (.int .i64 u) := (bu.cell 0).trans rfl
          have fq := bu.frozen 0
          have hd1 := dg_le m
          clear hP hem C1 b1 bu
          go_wp2_with fail
          refine HP.out.mono ?_
          rintro e w3 ⟨rfl, v, hv', E3, b3, h0', h1⟩
          have c3 : w3.cell? ⟨q, 0, none⟩ = some (.int .i64 v) := (b3.cell 0).trans rfl
          have HDG := Lib.hid (fun W => digits_any m (by omega) W)
          replace E3 := Lib.hid E3
          clear b3 HP cq fq
          have h1' : ¬ 4 + 4 * (dg m : Int) < v := by omega
          generalize dg m = d at *
          simp only [encXI, Bool.not_false]
          have hw1' : IntKind.i64.wrap (4 * (d : Int)) = 4 * (d : Int) := IntWalk.i64_in _ (by omega)
          have hw2' : IntKind.i64.wrap (4 + 4 * (d : Int)) = 4 + 4 * (d : Int) := IntWalk.i64_in _ (by omega)
          go_wp2_with fail
          go_quiet ((go_at_call 18; exact Calls.quiet_of_same (HDG.out _)))
          clear hw1' hw2'
          have E4 := Lib.hid (E3.out.drewN nq)
          go_wp2
          go_roundw
          case rel => exact ⟨m - 1, hv', E.tail, by go_num, by omega, E4, htl⟩
          case measure => simp [intOf]; omega
        · obtain rfl : m = 0 := by omega
          have hP := co_len hC.out
          rw [hl.out] at hP
          have HP := Lib.hid hP
          clear hP
          go_wp2_with fail
          refine HP.out.mono ?_
          rintro e w3 ⟨rfl, rfl⟩
          go_wp2
          go_ret
          exact ⟨rfl, hC.out.gr.below⟩
end Go.Proofs.Ytnepkpcoglfejaa
