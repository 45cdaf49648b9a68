/- A step of a joined worker. -/
import Derived.Test.YtambnijbbnohfaaJoinB
import Derived.Test.YtambnijbbnohfaaRunC
namespace Go.Proofs.Ytambnijbbnohfaa
open Go.RowKit

/-- The function with its number in block x, its count in x + 1, its steps in x + 2. -/
def fv (bg x : Nat) : Value := .iface 32 (.func (Fn.func 14) #[] #[.pointer (some ⟨x + 2, 0, none⟩), .pointer (some ⟨bg, 0, none⟩), .pointer (some ⟨x, 0, none⟩), .pointer (some ⟨x + 1, 0, none⟩)])

structure JS (B N bg br : Nat) (xs : List Nat) (zs : List Int) (Ar : Option Addr) (cr j : Nat) (k : Int) (log : List Int) (w : World) : Prop where
  size : B ≤ N ∧ N ≤ w.heap.size
  len : xs.length = zs.length
  row : w.ownsRow B 34 1 (.slice Ar xs.length cr) xs.length (xs.map (fv bg))
  lts : bg < N ∧ br < N ∧ (∀ b, (Value.slice Ar xs.length cr).ownBlock = some b → b < N) ∧ (∀ x ∈ xs, x + 2 < N)
  ges : B ≤ bg ∧ B ≤ br ∧ (∀ x ∈ xs, B ≤ x)
  apart : xs.Pairwise (fun x y => x + 2 < y)
  hj : j ≤ xs.length
  var : ∃ Aj, Bk w br 31 #[.slice Aj (xs.length - j) (cr - j)] ∧ (j < xs.length → Aj = Ar.map (·.add j))
  kc : ∀ i (h : i < xs.length), j ≤ i → Bk w (xs[i] + 2) 3 #[.int .i64 (if i = j then k else 0)]
  ic : ∀ i (h : i < xs.length), Bk w xs[i] 3 #[.int .i64 i]
  nc : ∀ i (h : i < xs.length), Bk w (xs[i] + 1) 3 #[.int .i64 (zs.getD i 0)]
  log : ∃ v, Bk w bg 22 #[v] ∧ OwnI w N v log

theorem apart_ne {xs : List Nat} (h : xs.Pairwise (fun x y => x + 2 < y)) {i l : Nat} (hi : i < xs.length) (hl : l < xs.length) (hne : i ≠ l) : xs[i] + 2 < xs[l] ∨ xs[l] + 2 < xs[i] := by
  rcases Nat.lt_or_gt_of_ne hne with h1 | h1
  · exact .inl (List.pairwise_iff_getElem.mp h i l hi hl h1)
  · exact .inr (List.pairwise_iff_getElem.mp h l i hl hi h1)

theorem js_fn {B N bg br cr j : Nat} {xs : List Nat} {zs log : List Int} {Ar : Option Addr} {k : Int} {w w' : World} (h : JS B N bg br xs zs Ar cr j k log w) (hj : j < xs.length) (hf : FPost (xs[j] + 2) bg N k j log w w') :
    JS B N bg br xs zs Ar cr j (k + 1) (log ++ [(j : Int)]) w' ∧ Below B w w' ∧ (∀ b, b < N → b ≠ br → b ≠ bg → (∀ x ∈ xs, b ≠ x + 2) → w'.heap[b]? = w.heap[b]?) := by
  obtain ⟨s1, s2, s3, s4, s5, s6, s7, ⟨Aj, s8, s9⟩, s10, s11, s12, vl, s13, s14⟩ := h
  obtain ⟨f1, f2, f3, f4, f5, f6, f7⟩ := hf
  have hx := s4.2.2.2 _ (List.getElem_mem hj)
  have hxb := s5.2.2 _ (List.getElem_mem hj)
  refine ⟨⟨⟨s1.1, by omega⟩, s2, row_keep s3 fun b e => f3 b (s4.2.2.1 b e) (fun e' => row_ne s3 (s10 j hj (Nat.le_refl _)) (by decide) (by rw [e, e'])) (fun e' => row_ne s3 s13 (by decide) (by rw [e, e'])), s4, s5, s6, s7, ⟨Aj, ?_, s9⟩, ?_, ?_, ?_, f2⟩, ⟨f5, f6, f7, f4, fun b hb => f3 b (by omega) (by omega) (by omega)⟩, fun b h1 h2 h3 h4 => f3 b h1 (h4 _ (List.getElem_mem hj)) h3⟩
  · exact s8.keep (f3 br s4.2.1 (fun e => s8.ne (s10 j hj (Nat.le_refl _)) (by decide) e) (fun e => s8.ne s13 (by decide) e))
  · intro i hi hji
    by_cases hij : i = j
    · subst hij
      rw [if_pos rfl]
      exact f1
    · have h1 := s10 i hi hji
      rw [if_neg hij] at h1 ⊢
      have := apart_ne s6 hi hj hij
      exact h1.keep (f3 _ (s4.2.2.2 _ (List.getElem_mem hi)) (by omega) (fun e => h1.ne s13 (by decide) e))
  · intro i hi
    have h1 := s11 i hi
    have := s4.2.2.2 _ (List.getElem_mem hi)
    refine h1.keep (f3 _ (by omega) ?_ (fun e => h1.ne s13 (by decide) e))
    by_cases hij : i = j
    · subst hij; omega
    · have := apart_ne s6 hi hj hij; omega
  · intro i hi
    have h1 := s12 i hi
    have := s4.2.2.2 _ (List.getElem_mem hi)
    refine h1.keep (f3 _ (by omega) ?_ (fun e => h1.ne s13 (by decide) e))
    by_cases hij : i = j
    · subst hij; omega
    · have := apart_ne s6 hi hj hij; omega

theorem js_cut {B N bg br cr j : Nat} {xs : List Nat} {zs log : List Int} {Ar : Option Addr} {k : Int} {w : World} {Aj' : Option Addr} (h : JS B N bg br xs zs Ar cr j k log w) (hj : j < xs.length) (hA : j + 1 < xs.length → Aj' = Ar.map (·.add (j + 1))) :
    JS B N bg br xs zs Ar cr (j + 1) 0 log (w.setCell ⟨br, 0, none⟩ (.slice Aj' (xs.length - j - 1) (cr - j - 1))) := by
  obtain ⟨s1, s2, s3, s4, s5, s6, s7, ⟨Aj, s8, s9⟩, s10, s11, s12, vl, s13, s14⟩ := h
  have hset : ∀ b, b ≠ br → (w.setCell ⟨br, 0, none⟩ (.slice Aj' (xs.length - j - 1) (cr - j - 1))).heap[b]? = w.heap[b]? := fun b hb => Below.heap_setCell _ _ _ _ hb
  refine ⟨⟨s1.1, by simpa [World.setCell] using s1.2⟩, s2, row_keep s3 fun b e => hset b (fun e' => row_ne s3 s8 (by decide) (by rw [e, e'])), s4, s5, s6, hj, ⟨Aj', ?_, hA⟩, ?_, ?_, ?_, vl, s13.keep (hset _ (fun e => s13.ne s8 (by decide) e)), s14.keep fun b e => hset b (by have := (s14.lt b e).1; omega)⟩
  · rw [show xs.length - (j + 1) = xs.length - j - 1 from by omega, show cr - (j + 1) = cr - j - 1 from by omega]
    exact s8.put 0 _
  · intro i hi hji
    have h1 := s10 i hi (by omega)
    rw [if_neg (by omega)] at h1
    have e : (if i = j + 1 then (0 : Int) else 0) = 0 := by split <;> rfl
    rw [e]
    exact h1.keep (hset _ (fun e => h1.ne s8 (by decide) e))
  · intro i hi
    exact (s11 i hi).keep (hset _ (fun e => (s11 i hi).ne s8 (by decide) e))
  · intro i hi
    exact (s12 i hi).keep (hset _ (fun e => (s12 i hi).ne s8 (by decide) e))

theorem Try.method32 (F : Nat) (caps : Array Value) (w : World) : (method 181 32 (.func (Fn.func F) #[] caps) "Step").run Try.prog w = .ok (16, .func (Fn.func F) #[] caps) w := by kernel_rfl
theorem eql_ifnil (u : TypeId) (x : Value) (w : World) : (binOp .eql 34 (.iface u x) .nilIface).run Try.prog w = .ok (.bool false) w := by kernel_rfl

structure J1 (B N bg br : Nat) (xs : List Nat) (zs : List Int) (Ar : Option Addr) (cr j : Nat) (k : Int) (log : List Int) (w : World) (e : Ending) (w' : World) : Prop where
  ret : e = .returned (.bool (decide (zs.getD j 0 ≤ k + 1) && decide (j + 1 = xs.length)))
  js : JS B N bg br xs zs Ar cr (if zs.getD j 0 ≤ k + 1 then j + 1 else j) (if zs.getD j 0 ≤ k + 1 then 0 else k + 1) (log ++ [(j : Int)]) w'
  below : Below B w w'
  keep : ∀ b, b < N → b ≠ br → b ≠ bg → (∀ x ∈ xs, b ≠ x + 2) → w'.heap[b]? = w.heap[b]?

set_option maxHeartbeats 400000 in
theorem join1_any (B N bg br cr j : Nat) (xs : List Nat) (zs log : List Int) (Ar : Option Addr) (k : Int) (w : World) (h : JS B N bg br xs zs Ar cr j k log w) (hj : j < xs.length) (_hn : xs.length ≤ 1000000) (hl : log.length ≤ 1000000) (hk0 : 0 ≤ k) (hk1 : k ≤ 1000000) :
    Calls Try.prog 28 #[.pointer (some ⟨br, 0, none⟩)] w (J1 B N bg br xs zs Ar cr j k log w) := by
  have h' := h
  obtain ⟨s1, s2, s3, s4, s5, s6, s7, ⟨Aj, s8, s9⟩, s10, s11, s12, vl, s13, s14⟩ := h
  have hx := s4.2.2.2 _ (List.getElem_mem hj)
  have h10 := s10 j hj (Nat.le_refl _)
  rw [if_pos rfl] at h10
  have hfn := fn_any (xs[j] + 2) bg xs[j] (xs[j] + 1) N k j (zs.getD j 0) log vl w h10 s13 (s11 j hj) (s12 j hj) s14 s1.2 hx s4.1 (by omega) (by omega) (by omega) (by omega) hl hk0 hk1
  have hF := fstep_any 14 #[.pointer (some ⟨xs[j] + 2, 0, none⟩), .pointer (some ⟨bg, 0, none⟩), .pointer (some ⟨xs[j], 0, none⟩), .pointer (some ⟨xs[j] + 1, 0, none⟩)] (decide (zs.getD j 0 ≤ k + 1)) (fun w' => JS B N bg br xs zs Ar cr j (k + 1) (log ++ [(j : Int)]) w' ∧ Below B w w' ∧ (∀ b, b < N → b ≠ br → b ≠ bg → (∀ x ∈ xs, b ≠ x + 2) → w'.heap[b]? = w.heap[b]?)) w Try.call14
    (hfn.mono fun e w' ⟨he, hf⟩ => ⟨he, js_fn h' hj hf⟩)
  have HF := Lib.hid hF
  obtain ⟨_, ⟨hnil, h0⟩ | ⟨gr, cap, cur, hv, hgr, hrow, hcn, hcM, hcs, hcu⟩⟩ := id s3
  · omega
  obtain ⟨rfl, rfl⟩ : Ar = some ⟨gr, 0, none⟩ ∧ cr = cap := by injection hv with h1 h2 h3; exact ⟨h1, h3⟩
  have hrow : Bk w gr 34 cur := hrow
  obtain rfl : Aj = some ⟨gr, j, none⟩ := by rw [s9 hj]; simp [add_mk]
  have c1 : w.cell? ⟨br, 0, none⟩ = some (.slice (some ⟨gr, j, none⟩) (xs.length - j) (cr - j)) := by rw [s8.cell]; rfl
  have c2 : w.cell? ⟨gr, j, none⟩ = some (fv bg xs[j]) := by
    rw [hrow.cell, ← Array.getElem?_toList, ← List.getElem?_take_of_lt (show j < xs.length * 1 by omega), hcu, List.getElem?_map, List.getElem?_eq_getElem hj]
    rfl
  unfold fv at c2
  have hm := Try.method32
  have he := eql_ifnil
  clear hfn hF h10 s10 s11 s12 s9 hcu s13 s14 s3 hv s2 s4 s6 h' s8 hrow hcs hgr
  generalize xs[j] = x at *
  have hpos : 0 < xs.length - j := by omega
  unfold maxLen at hcM
  have hB5 := s5.2.1
  clear s5
  go_enter Try.func28, Try.ntmps28
  go_wp2_with fail
  refine HF.out.mono ?_
  rintro e w1 ⟨rfl, hjs, hbel, hkeep⟩
  have HKP := Lib.hid hkeep; clear hkeep
  have hv1 := hjs.var
  obtain ⟨Aj1, q1, q2⟩ := hv1
  obtain rfl : Aj1 = some ⟨gr, j, none⟩ := by rw [q2 hj]; simp [add_mk]
  have d1 : w1.cell? ⟨br, 0, none⟩ = some (.slice (some ⟨gr, j, none⟩) (xs.length - j) (cr - j)) := by rw [q1.cell]; rfl
  have d2 : w1.frozen? ⟨br, 0, none⟩ = false := q1.frozen 0
  have HJS := Lib.hid hjs
  clear hjs q1 q2 c1 c2 HF
  by_cases hz : zs.getD j 0 ≤ k + 1
  · have hzd : decide (zs.getD j 0 ≤ k + 1) = true := by simpa using hz
    rw [hzd]
    have hdone : ∀ Aj', (j + 1 < xs.length → Aj' = some ⟨gr, j + 1, none⟩) → J1 B N bg br xs zs (some ⟨gr, 0, none⟩) cr j k log w (.returned (.bool (((xs.length - j - 1 : Nat) : Int) == 0))) (w1.setCell ⟨br, 0, none⟩ (.slice Aj' (xs.length - j - 1) (cr - j - 1))) := fun Aj' hA => by
      refine ⟨?_, ?_, hbel.setCell hB5 _, fun b h1 h2 h3 h4 => (Below.heap_setCell _ _ _ _ h2).trans (HKP.out b h1 h2 h3 h4)⟩
      · rw [hzd, Bool.true_and]
        refine ret_bool ?_
        rw [Bool.eq_iff_iff]
        simp only [decide_eq_true_eq, beq_iff_eq]
        omega
      · rw [if_pos hz, if_pos hz]
        exact js_cut HJS.out hj (fun h => by rw [hA h]; simp [add_mk])
    have HD := Lib.hid hdone
    clear hdone hz hzd hbel
    go_wp2
    · go_ret
      have := HD.out (some ⟨gr, j, none⟩) (fun hh => by omega)
      rw [h] at this
      exact this
    · go_ret
      exact HD.out _ (fun _ => rfl)
  · have hzd : decide (zs.getD j 0 ≤ k + 1) = false := by simpa using hz
    rw [hzd]
    have hdone : J1 B N bg br xs zs (some ⟨gr, 0, none⟩) cr j k log w (.returned (.bool false)) w1 := by
      refine ⟨?_, ?_, hbel, HKP.out⟩
      · rw [hzd]; rfl
      · rw [if_neg hz, if_neg hz]
        exact HJS.out
    have HD := Lib.hid hdone
    clear hdone hz hzd hbel
    have hne0 : ((xs.length - j : Nat) : Int) ≠ 0 := by omega
    have hne1 : (((xs.length - j : Nat) : Int) == 0) = false := by rw [beq_eq_false_iff_ne]; exact hne0
    go_wp2
    go_ret
    exact HD.out

end Go.Proofs.Ytambnijbbnohfaa
