/- Plain facts for ScheduleFair: the trace of a run; the round robin. -/
import Derived.Test.YtambnijbbnohfaaEveryP
namespace Go.Proofs.Ytambnijbbnohfaa
open Go.RowKit

/-- The steps tr are those that the workers with 'left' steps perform next. -/
def Tr : List Int → List Int → Int → List Int → Prop
  | _, _, _, [] => True
  | left, ss, last, x :: tr => 0 < (unf left).length ∧ x = (unf left).getD (place (unf left) ss last) 0 ∧ Tr (dec1 left x) ss.tail x tr

theorem step_open {out left : List Int} {x : Int} {p : Nat} (hp : p < (unf left).length) (hx : x = (unf left).getD p 0) :
    (if (actO (out, left) x).1 then (unf left).eraseIdx p else unf left) = unf (dec1 left x) ∧ 0 ≤ x ∧ x.toNat < left.length ∧ 0 < left.getD x.toNat 0 := by
  have hat : (unf left)[p]? = some x := by rw [hx, List.getD_eq_getElem?_getD, List.getElem?_eq_getElem hp]; rfl
  obtain ⟨k, hk, rfl, hpos⟩ := mem_unf.mp (List.mem_of_getElem? hat)
  refine ⟨?_, by omega, by simpa using hk, by simpa using hpos⟩
  have e1 : (actO (out, left) (k : Int)).1 = (left.getD k 0 - 1 == 0) := by simp [actO]
  have e2 : dec1 left (k : Int) = left.set k (left.getD k 0 - 1) := by simp [dec1]
  rw [e2]
  by_cases hz : left.getD k 0 - 1 = 0
  · rw [e1, hz, unf_erase left _ _ hk hat]; rfl
  · have : (left.getD k 0 - 1 == 0) = false := by rw [beq_eq_false_iff_ne]; exact hz
    rw [e1, this, unf_set_pos left _ _ hk hpos (by omega)]; rfl

theorem sum_pos_of_unf : ∀ (l : List Int), (∀ x ∈ l, 0 ≤ x) → l.sum = 0 → ∀ x ∈ l, x = 0
  | [], _, _ => by simp
  | a :: l, h, hs => by
    have h1 := h a (by simp)
    have h2 := sum_nonneg l fun x hx => h x (by simp [hx])
    rw [List.sum_cons] at hs
    intro x hx
    rcases List.mem_cons.mp hx with rfl | hx
    · omega
    · exact sum_pos_of_unf l (fun x hx => h x (by simp [hx])) (by omega) x hx
theorem unf_nil_of_zero {l : List Int} (h : ∀ x ∈ l, x = 0) : unf l = [] := by
  rw [List.eq_nil_iff_forall_not_mem]
  intro i hi
  obtain ⟨k, hk, _, h0⟩ := mem_unf.mp hi
  rw [List.getD_eq_getElem?_getD, List.getElem?_eq_getElem hk, Option.getD_some, h _ (List.getElem_mem hk)] at h0
  omega
theorem zero_of_unf_nil {l : List Int} (h : ∀ x ∈ l, 0 ≤ x) (hu : unf l = []) : l.sum = 0 := by
  have hz : ∀ x ∈ l, x = 0 := by
    intro x hx
    obtain ⟨k, hk, rfl⟩ := List.getElem_of_mem hx
    rcases Int.lt_or_eq_of_le (h _ (List.getElem_mem hk)) with h1 | h1
    · have : (k : Int) ∈ unf l := mem_unf.mpr ⟨k, hk, rfl, by rw [List.getD_eq_getElem?_getD, List.getElem?_eq_getElem hk]; exact h1⟩
      rw [hu] at this
      simp at this
    · exact h1.symm
  clear h hu
  induction l with
  | nil => rfl
  | cons a l ih =>
    rw [List.sum_cons, hz a (by simp), ih fun x hx => hz x (by simp [hx])]
    rfl
theorem dec1_nonneg {left : List Int} {x : Int} (h : ∀ y ∈ left, 0 ≤ y) (hpos : 0 < left.getD x.toNat 0) : ∀ y ∈ dec1 left x, 0 ≤ y := by
  intro y hy
  rcases List.mem_or_eq_of_mem_set hy with hy | rfl
  · exact h y hy
  · omega
theorem dec1_sum {left : List Int} {x : Int} (hl : x.toNat < left.length) : (dec1 left x).sum = left.sum - 1 := by
  unfold dec1
  rw [sum_set _ _ _ hl]
  omega

/-- With enough steps allowed the run is a trace that ends. -/
theorem run_trace : ∀ (fuel : Nat) (ss : List Int) (last : Int) (out left : List Int), (∀ x ∈ left, 0 ≤ x) → left.sum = fuel →
    ∃ tr, (runF actO fuel (unf left) ss last (out, left)).2.2.1 = out ++ tr ∧ tr.length = fuel ∧ (runF actO fuel (unf left) ss last (out, left)).2.1 = true ∧ (runF actO fuel (unf left) ss last (out, left)).1 = fuel ∧ Tr left ss last tr
  | 0, ss, last, out, left, h, hs => by
    have : unf left = [] := unf_nil_of_zero (sum_pos_of_unf left h (by simpa using hs))
    rw [this, runF_nil]
    exact ⟨[], by simp, rfl, rfl, rfl, trivial⟩
  | fuel + 1, ss, last, out, left, h, hs => by
    have hlen : 0 < (unf left).length := by
      rcases Nat.eq_zero_or_pos (unf left).length with h0 | h0
      · have := zero_of_unf_nil h (List.eq_nil_of_length_eq_zero h0)
        omega
      · exact h0
    have hp := place_lt (unf left) ss last hlen
    obtain ⟨h1, h2, h3, h4⟩ := step_open (out := out) hp rfl
    rw [runF_succ _ _ _ _ _ _ hlen, h1]
    generalize hx : (unf left).getD (place (unf left) ss last) 0 = x at *
    have e2 : (actO (out, left) x).2 = (out ++ [x], dec1 left x) := rfl
    obtain ⟨tr, t1, t2, t3, t4, t5⟩ := run_trace fuel ss.tail x (out ++ [x]) (dec1 left x) (dec1_nonneg h h4) (by rw [dec1_sum h3]; omega)
    rw [e2]
    exact ⟨x :: tr, by rw [t1]; simp, by rw [List.length_cons, t2], t3, by rw [t4], hlen, hx.symm, t5⟩

/-- Going round from 'last', x is the next of the unfinished workers. -/
def Cyc (left : List Int) (last x : Int) : Prop := (last < x ∧ ∀ o ∈ unf left, o ≤ last ∨ x ≤ o) ∨ (x ≤ last ∧ ∀ o ∈ unf left, x ≤ o ∧ o ≤ last)
theorem cyc_place (left : List Int) (last : Int) (h : 0 < (unf left).length) : Cyc left last ((unf left).getD (placeOf (unf left) last) 0) := by
  have hasc := unf_asc left
  rw [List.pairwise_iff_getElem] at hasc
  unfold placeOf
  by_cases hf : (unf left).findIdx (fun i => decide (last < i)) < (unf left).length
  · rw [if_pos hf, List.getD_eq_getElem?_getD, List.getElem?_eq_getElem hf]
    have h1 := List.findIdx_getElem (w := hf)
    simp only [decide_eq_true_eq] at h1
    refine .inl ⟨h1, fun o ho => ?_⟩
    obtain ⟨j, hj, rfl⟩ := List.getElem_of_mem ho
    rcases Nat.lt_trichotomy j ((unf left).findIdx (fun i => decide (last < i))) with h2 | h2 | h2
    · have := List.not_of_lt_findIdx h2
      simp only [decide_eq_false_iff_not] at this
      exact .inl (by omega)
    · right
      subst h2
      exact Int.le_refl _
    · have := hasc _ _ hf hj h2
      exact .inr (by simp only [Option.getD_some]; omega)
  · rw [if_neg hf, List.getD_eq_getElem?_getD, List.getElem?_eq_getElem h]
    have hall : ∀ j (hj : j < (unf left).length), (unf left)[j] ≤ last := fun j hj => by
      have := List.not_of_lt_findIdx (p := fun i => decide (last < i)) (xs := unf left) (i := j) (by omega)
      simp only [decide_eq_false_iff_not] at this
      omega
    refine .inr ⟨hall 0 h, fun o ho => ?_⟩
    obtain ⟨j, hj, rfl⟩ := List.getElem_of_mem ho
    refine ⟨?_, hall j hj⟩
    rcases Nat.eq_zero_or_pos j with rfl | h0
    · exact Int.le_refl _
    · have := hasc 0 j h hj h0
      simp only [Option.getD_some]
      omega

/-- o lies behind a and not behind b, going round. -/
def Btw (a o b : Int) : Prop := (a < b ∧ a < o ∧ o ≤ b) ∨ (b < a ∧ (a < o ∨ o ≤ b))

theorem cyc_check {left : List Int} {last x o : Int} (hc : Cyc left last x) (ho : o ∈ unf left) (hne : o ≠ x) : Btw x o last := by
  unfold Btw
  rcases hc with ⟨h1, h2⟩ | ⟨h1, h2⟩
  · have := h2 o ho; omega
  · have := h2 o ho; omega
theorem cyc_next {left : List Int} {last x o k : Int} (hc : Cyc left last x) (ho : o ∈ unf left) (hne : o ≠ x) (hb : Btw k o x) : Btw k o last := by
  unfold Btw at *
  rcases hc with ⟨h1, h2⟩ | ⟨h1, h2⟩
  · have := h2 o ho; omega
  · have := h2 o ho; omega

/-- What 'since' says is true: of each worker with a list, all unfinished ones that lie between it and the last one are marked. -/
def Fair (left : List Int) (last : Int) (S : List (Option (List Bool))) : Prop := ∀ (k : Nat) (f : List Bool), S[k]? = some (some f) → ∀ o : Nat, (o : Int) ∈ unf left → o ≠ k → Btw k o last → f.getD o false = true

theorem Fair.none (left : List Int) (last : Int) (n : Nat) : Fair left last (List.replicate n none) := by
  intro k f h
  rw [List.getElem?_replicate] at h
  split at h <;> simp at h
theorem mem_dec1 {left : List Int} {x o : Int} (hl : x.toNat < left.length) (hpos : 0 < left.getD x.toNat 0) (h : o ∈ unf (dec1 left x)) : o ∈ unf left := by
  obtain ⟨k, hk, rfl, h0⟩ := mem_unf.mp h
  unfold dec1 at hk h0
  rw [List.length_set] at hk
  rw [getD_set _ _ _ _ hl] at h0
  refine mem_unf.mpr ⟨k, hk, rfl, ?_⟩
  split at h0
  · subst_vars; exact hpos
  · exact h0
def marked (S : List (Option (List Bool))) (q : Nat) : List (Option (List Bool)) := S.map (fun s => s.map (fun f => f.set q true))
theorem Fair.next {left : List Int} {last : Int} {S : List (Option (List Bool))} {q : Nat} {g : List Bool} (h : Fair left last S) (hc : Cyc left last q) (hl : q < left.length) (hpos : 0 < left.getD q 0) (hlen : ∀ (k : Nat) (f : List Bool), S[k]? = some (some f) → f.length = left.length) :
    Fair (dec1 left q) q ((marked S q).set q (some g)) := by
  intro k f hk o ho hne hb
  have ho' : (o : Int) ∈ unf left := mem_dec1 (by simpa using hl) (by simpa using hpos) ho
  by_cases hkq : k = q
  · subst hkq
    unfold Btw at hb
    omega
  · rw [List.getElem?_set_ne (fun e => hkq e.symm)] at hk
    unfold marked at hk
    rw [List.getElem?_map] at hk
    cases hs : S[k]? with
    | none => rw [hs] at hk; simp at hk
    | some s =>
      rw [hs] at hk
      cases s with
      | none => simp at hk
      | some f0 =>
        simp only [Option.map_some, Option.some.injEq] at hk
        subst hk
        have hfl := hlen k f0 hs
        obtain ⟨o', hol, hoe, _⟩ := mem_unf.mp ho'
        have hol : o < left.length := by omega
        rw [List.getD_eq_getElem?_getD, List.getElem?_set]
        by_cases hoq : q = o
        · subst hoq
          rw [if_pos rfl, if_pos (by omega)]
          rfl
        · rw [if_neg hoq, ← List.getD_eq_getElem?_getD]
          exact h k f0 hs o ho' hne (cyc_next hc ho' (by omega) hb)

end Go.Proofs.Ytambnijbbnohfaa
