/- schedule.Order. -/
import Derived.Test.YtambnijbbnohfaaPure
namespace Go.Proofs.Ytambnijbbnohfaa
open Go.RowKit

/-- The answer of Order: the steps, and the error's number. -/
def ordR (zs ss : List Int) (most : Int) : List Int × Int :=
  if most < 0 ∨ zs.any (fun n => decide (n < 1)) = true then ([], 1)
  else ((runF actO most.toNat (upto zs.length) ss (-1) ([], zs)).2.2.1, if (runF actO most.toNat (upto zs.length) ss (-1) ([], zs)).2.1 then 0 else 8)

structure OrdPost (r : List Int × Int) (w : World) (e : Ending) (w' : World) : Prop where
  ex : ∃ v, e = .returned (.tuple #[v, .int .i64 r.2]) ∧ OwnI w' w.heap.size v r.1
  below : Below w.heap.size w w'

theorem stepsO {B bo bl gt g : Nat} {A : Option Addr} {ss : List Int} {T : Int} (hT : T ≤ 1000000) : Steps 25 #[.pointer (some ⟨bo, 0, none⟩), .pointer (some ⟨bl, 0, none⟩)] actO (InvO B bo bl gt g A ss) (OkO T) A ss B gt g where
  enter := Try.call25
  stable := by
    rintro s w w' ⟨h1, h2, h3, h4, h5, vo, vl, k1, k2, k3, k4, k5, k6, k7⟩ hsz hk
    have kb : ∀ {v : Value} {xs : List Int}, OwnI w B v xs → Off v [gt, g] → OwnI w' B v xs := fun {v xs} h ho => h.keep fun b e => by
      have hb := ho b e
      simp at hb
      exact hk b (h.lt b e).2 hb.2 hb.1
    refine ⟨by omega, h2.kept fun b hb => hk b (by omega) (by omega) (by omega), ⟨h3.1, h3.2.1, h3.2.2.1, by omega⟩, ⟨h4.1, h4.2.1, h4.2.2.1, by omega, h4.2.2.2.2⟩, ⟨h5.1, h5.2.1, by omega, by omega⟩, vo, vl, k1.keep (hk _ k1.lt h3.2.2.1 h3.2.1), kb k2 k5, k3.keep (hk _ k3.lt h4.2.2.1 h4.2.1), kb k4 k6, k5, k6, k7⟩
  script := fun s w h => h.see.self
  call := by
    rintro ⟨out, left⟩ op i w hinv hok hi
    obtain ⟨h1, h2, h3, h4⟩ := hok.at hi
    have hl : (out.length : Int) ≤ 1000000 := by
      have h := hok.sum
      have h0 : 0 ≤ left.sum := sum_nonneg left fun x hx => (hok.range x hx).1
      simp only at h
      omega
    exact (stepO_any B bo bl gt g A ss out left i w hinv h1 h2 h3 h4 (by omega)).mono fun e w' h => ⟨h.ret, h.inv, h.below, h.gt, h.g⟩
  next := fun s op p hok hp => hok.next hp

set_option maxHeartbeats 400000 in
theorem order_arg (A A1 : Option Addr) (n c m c1 B : Nat) (most : Int) (zs ss : List Int) (w : World) (hn : zs.length = n) (hN : n ≤ maxLen) (hs : Sees w B A (zs.map (Value.int .i64))) (h : most < 0 ∨ zs.any (fun n => decide (n < 1)) = true) :
    Calls Try.prog 11 #[.slice A n c, .slice A1 m c1, .int .i64 most] w (OrdPost (ordR zs ss most) w) := by
  have hr : ordR zs ss most = ([], 1) := if_pos h
  rw [hr]
  by_cases h1 : most < 0
  · clear h hr
    go_enter Try.func11, Try.ntmps11
    go_wp2
    go_ret2
    exact ⟨⟨_, rfl, OwnI.nil _ _⟩, Below.refl _ _⟩
  · have h2 := h.resolve_left h1
    clear hr h
    have H := Lib.hid (containsFunc_any 21 #[] (fun n => decide (n < 1)) A n c B zs w hn hN hs Try.call21 (fun x => less1_any x w))
    clear hn hN hs
    go_enter Try.func11, Try.ntmps11
    go_wp2_with fail
    refine H.out.mono ?_
    rintro e w' ⟨rfl, rfl⟩
    rw [h2]
    go_wp2
    go_ret2
    exact ⟨⟨_, rfl, OwnI.nil _ _⟩, Below.refl _ _⟩

theorem sum_le (T : Int) : ∀ (l : List Int), (∀ x ∈ l, x ≤ T) → l.sum ≤ l.length * T
  | [], _ => by simp
  | a :: l, h => by
    have h1 := sum_le T l fun x hx => h x (by simp [hx])
    have h2 := h a (by simp)
    simp only [List.sum_cons, List.length_cons]
    have : ((l.length + 1 : Nat) : Int) * T = l.length * T + T := by rw [Int.natCast_add, Int.add_mul]; simp
    omega

theorem invO_start {w w1 w3 : World} {zs ss : List Int} {n m c1 : Nat} {A : Option Addr} {vl v : Value} {A1 : Option Addr} {last : Int} (hb1 : Below w.heap.size w w1) (hown1 : OwnI w1 w.heap.size vl zs) (hs : Sees w w.heap.size A (ss.map (Value.int .u8)))
    (hb3 : Below ((w1.alloc (.cells #[vl] 22)).alloc (.cells #[.slice none 0 0] 22)).heap.size ((w1.alloc (.cells #[vl] 22)).alloc (.cells #[.slice none 0 0] 22)) w3)
    (hblk : Bk w3 ((w1.alloc (.cells #[vl] 22)).alloc (.cells #[.slice none 0 0] 22)).heap.size 61 #[v, .slice A1 m c1, .int .i64 last]) (hown3 : OwnI w3 (((w1.alloc (.cells #[vl] 22)).alloc (.cells #[.slice none 0 0] 22)).heap.size + 1) v (upto n)) :
    InvO w.heap.size (w1.heap.size + 1) w1.heap.size ((w1.alloc (.cells #[vl] 22)).alloc (.cells #[.slice none 0 0] 22)).heap.size (v.ownBlock.getD ((w1.alloc (.cells #[vl] 22)).alloc (.cells #[.slice none 0 0] 22)).heap.size) A ss ([], zs) w3 := by
  have e2 : ((w1.alloc (.cells #[vl] 22)).alloc (.cells #[.slice none 0 0] 22)).heap.size = w1.heap.size + 2 := by simp
  have hl2 : Bk ((w1.alloc (.cells #[vl] 22)).alloc (.cells #[.slice none 0 0] 22)) w1.heap.size 22 #[vl] := (Bk.made w1 22 #[vl]).alloc _
  have ho2 : Bk ((w1.alloc (.cells #[vl] 22)).alloc (.cells #[.slice none 0 0] 22)) (w1.heap.size + 1) 22 #[.slice none 0 0] := by
    have := Bk.made (w1.alloc (.cells #[vl] 22)) 22 #[.slice none 0 0]
    simpa using this
  have hg : v.ownBlock.getD (w1.heap.size + 2) = w1.heap.size + 2 ∨ w1.heap.size + 2 < v.ownBlock.getD (w1.heap.size + 2) ∧ v.ownBlock.getD (w1.heap.size + 2) < w3.heap.size := by
    cases h : v.ownBlock with
    | none => exact .inl rfl
    | some b => exact .inr (by have := hown3.lt b h; rw [e2] at this; simp only [Option.getD_some]; omega)
  have hlt := hblk.lt
  have hs3 := hb3.size
  rw [e2] at hb3 hblk hown3 hlt hs3 ⊢
  generalize v.ownBlock.getD (w1.heap.size + 2) = g at *
  have hsz := hb1.size
  refine ⟨by omega, ?_, ⟨by omega, by omega, by omega, by omega⟩, ⟨by omega, by omega, by omega, by omega, by omega⟩, ⟨by omega, by omega, by omega, by omega⟩, .slice none 0 0, vl, ho2.below hb3 (by omega), OwnI.nil _ _, hl2.below hb3 (by omega), ?_, (fun b e => by cases e), fun b e => ?_, (fun b e => by cases e)⟩
  · exact (hs.below hb1).kept fun b hb => (hb3.block b (by omega)).trans ((Below.heap_alloc _ _ _ (by simp; omega)).trans (Below.heap_alloc _ _ _ (by omega)))
  · exact hown1.keep fun b e => (hb3.block b (by have := hown1.lt b e; omega)).trans ((Below.heap_alloc _ _ _ (by have := hown1.lt b e; simp; omega)).trans (Below.heap_alloc _ _ _ (by have := hown1.lt b e; omega)))
  · have := hown1.lt b e
    simp
    omega
theorem invO_below {w w1 w3 : World} {o1 o2 : Obj} (hb1 : Below w.heap.size w w1) (hb3 : Below ((w1.alloc o1).alloc o2).heap.size ((w1.alloc o1).alloc o2) w3) : Below w.heap.size w w3 :=
  ((hb1.alloc hb1.size _).alloc (by have := hb1.size; simp; omega) _).trans (hb3.mono (by have := hb1.size; simp; omega))

set_option maxHeartbeats 400000 in
theorem order_run (A A1 : Option Addr) (n c m c1 B B1 M : Nat) (zs ss : List Int) (w : World) (hn : zs.length = n) (hN : n ≤ 1000) (hs : Sees w B A (zs.map (Value.int .i64))) (hm : ss.length = m) (hmc : m ≤ c1) (hcM : c1 ≤ maxLen)
    (hs1 : Sees w B1 A1 (ss.map (Value.int .u8))) (hby : ∀ x ∈ ss, 0 ≤ x ∧ x ≤ 255) (hM : M ≤ maxLen) (hz : ∀ x ∈ zs, 1 ≤ x ∧ x ≤ 1000) :
    Calls Try.prog 11 #[.slice A n c, .slice A1 m c1, .int .i64 M] w (OrdPost (ordR zs ss M) w) := by
  have h2 : zs.any (fun n => decide (n < 1)) = false := by
    rw [List.any_eq_false]
    intro x hx
    have := (hz x hx).1
    simp; omega
  have hr : ordR zs ss M = ((runF actO M (upto zs.length) ss (-1) ([], zs)).2.2.1, if (runF actO M (upto zs.length) ss (-1) ([], zs)).2.1 then 0 else 8) := by
    unfold ordR
    rw [if_neg (by rw [h2]; simp), Int.toNat_natCast]
  have HR := Lib.hid hr
  have H := Lib.hid (containsFunc_any 21 #[] (fun n => decide (n < 1)) A n c B zs w hn (by unfold maxLen; omega) hs Try.call21 (fun x => less1_any x w))
  have HC := Lib.hid (clone_any A n c B zs w hn (by omega) hs)
  clear hr hs
  have hM0 : ¬ (M : Int) < 0 := by omega
  have HM := Lib.hid hm; clear hm
  have HNN := Lib.hid hn; clear hn
  have HZ := Lib.hid hz; clear hz
  have HBY := Lib.hid hby; clear hby
  go_enter Try.func11, Try.ntmps11
  go_wp2_with fail
  refine H.out.mono ?_
  rintro e w' ⟨rfl, rfl⟩
  rw [h2]
  go_wp2_with fail
  refine HC.out.mono ?_
  rintro e w1 ⟨vl, rfl, hown1, hb1⟩
  obtain ⟨A2, c2, rfl, hc2, _⟩ := hown1.form
  go_wp2_with fail
  refine (begin_any n A1 m c1 _ (by omega)).mono ?_
  rintro e w3 ⟨v, rfl, hblk, hown3, hb3⟩
  have e2 : ((w1.alloc (Obj.cells #[Value.slice A2 zs.length c2] 22)).alloc (Obj.cells #[Value.slice none 0 0] 22)).heap.size = w1.heap.size + 2 := by simp
  have hinv := invO_start (A := A1) (ss := ss) hb1 hown1 hs1.self hb3 hblk hown3
  have hbel3 := invO_below hb1 hb3
  have hsz1 := hb1.size
  rw [e2] at hblk hown3 hb3 hinv ⊢
  clear hb3 hb1 hown1 e2
  have H3 : Calls Try.prog 24 _ w3 _ := run_any (stepsO (T := 1000000) (Int.le_refl _)) M c1 v (upto n) ([], zs) w3 hM (by rw [HM.out]; exact hblk) hown3 (fun b e => by rw [e]; rfl) (by rw [HM.out]; exact hmc) hcM (by rw [upto_len]; omega) hinv
    ⟨by rw [← HNN.out]; exact (unf_all zs (fun x hx => by have := HZ.out x hx; omega)).symm, fun x hx => by have := HZ.out x hx; omega, by
      have := sum_le 1000 zs (fun x hx => (HZ.out x hx).2)
      have := HNN.out
      simp only [List.length_nil]
      omega⟩ (by omega) HBY.out
  have H4 := Lib.hid H3
  clear H3
  go_wp2_with fail
  refine H4.out.mono ?_
  rintro e w5 ⟨rfl, ⟨_, _, _, _, _, vo, vl, hvo, hvo2, _, _, _⟩, hbel5⟩
  have hbel := hbel3.trans hbel5
  have hc5 : w5.cell? ⟨w1.heap.size + 1, 0, none⟩ = some vo := by rw [hvo.cell]; rfl
  have hown5 : OwnI w5 w.heap.size vo (runF actO M (upto n) ss (-1) ([], zs)).2.2.1 := hvo2
  obtain ⟨A6, c6, rfl, _, _⟩ := hown5.form
  clear hbel3 hbel5 hinv
  have hfin : OrdPost (ordR zs ss M) w (.returned (.tuple #[.slice A6 (runF actO M (upto n) ss (-1) ([], zs)).2.2.1.length c6, .int .i64 (if (runF actO M (upto n) ss (-1) ([], zs)).2.1 = true then 0 else 8)])) w5 := by
    rw [HR.out, HNN.out]
    exact ⟨⟨_, rfl, hown5⟩, hbel⟩
  have HF := Lib.hid hfin
  clear hfin hown5 hbel
  generalize (runF actO M (upto n) ss (-1) ([], zs)).2.2.1.length = len at *
  generalize (if (runF actO M (upto n) ss (-1) ([], zs)).2.1 = true then (0 : Int) else 8) = err at *
  go_wp2
  go_ret2
  exact HF.out

end Go.Proofs.Ytambnijbbnohfaa
