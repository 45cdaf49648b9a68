/- Plain facts on the unfinished workers. -/
import Derived.Test.YtambnijbbnohfaaStep
namespace Go.Proofs.Ytambnijbbnohfaa

theorem eraseIdx_filter {α : Type} [DecidableEq α] : ∀ (L : List α) (p : Nat) (k : α), L.Nodup → L[p]? = some k → L.eraseIdx p = L.filter (fun x => decide (x ≠ k)) := by
  intro L
  induction L with
  | nil => intro p k _ h; simp at h
  | cons a L ih =>
    intro p k hn h
    rw [List.nodup_cons] at hn
    match p with
    | 0 =>
      simp only [List.getElem?_cons_zero, Option.some.injEq] at h
      subst h
      rw [List.eraseIdx_cons_zero, List.filter_cons_of_neg (by simp)]
      symm
      rw [List.filter_eq_self]
      intro x hx
      simp only [decide_eq_true_eq]
      rintro rfl
      exact hn.1 hx
    | p + 1 =>
      rw [List.getElem?_cons_succ] at h
      have hk : a ≠ k := by
        rintro rfl
        exact hn.1 (List.mem_of_getElem? h)
      rw [List.eraseIdx_cons_succ, List.filter_cons_of_pos (by simpa using hk), ih p k hn.2 h]

theorem mem_unf {l : List Int} {i : Int} : i ∈ unf l ↔ ∃ k : Nat, k < l.length ∧ i = k ∧ 0 < l.getD k 0 := by
  simp only [unf, unfTo, List.mem_map, List.mem_filter, List.mem_range, decide_eq_true_eq]
  constructor
  · rintro ⟨k, ⟨h1, h2⟩, rfl⟩; exact ⟨k, h1, rfl, h2⟩
  · rintro ⟨k, h1, rfl, h2⟩; exact ⟨k, ⟨h1, h2⟩, rfl⟩

theorem unf_nodup (l : List Int) : (unf l).Nodup := by
  unfold unf unfTo
  refine List.Pairwise.map _ (fun a b h => ?_) (List.Pairwise.filter _ List.nodup_range)
  intro e
  exact h (by omega)

theorem getD_set (l : List Int) (k j : Nat) (x : Int) (hk : k < l.length) : (l.set k x).getD j 0 = if j = k then x else l.getD j 0 := by
  rw [List.getD_eq_getElem?_getD, List.getElem?_set, List.getD_eq_getElem?_getD]
  by_cases h : k = j
  · subst h; simp [hk]
  · rw [if_neg h, if_neg (fun e => h e.symm)]

theorem unf_set_pos (l : List Int) (k : Nat) (x : Int) (hk : k < l.length) (h0 : 0 < l.getD k 0) (hx : 0 < x) : unf (l.set k x) = unf l := by
  unfold unf unfTo
  rw [List.length_set]
  congr 1
  refine List.filter_congr fun j _ => ?_
  rw [getD_set l k j x hk]
  split
  · subst_vars; simp only [h0, hx]
  · rfl

theorem unf_set_zero (l : List Int) (k : Nat) (hk : k < l.length) : unf (l.set k 0) = (unf l).filter (fun x => decide (x ≠ (k : Int))) := by
  unfold unf unfTo
  rw [List.length_set, List.filter_map, List.filter_filter]
  congr 1
  refine List.filter_congr fun j _ => ?_
  rw [getD_set l k j 0 hk]
  by_cases h : j = k
  · subst h; simp
  · have : ¬ (j : Int) = (k : Int) := by omega
    rw [if_neg h]
    simp [this]

theorem unf_erase (l : List Int) (p k : Nat) (hk : k < l.length) (hp : (unf l)[p]? = some (k : Int)) : unf (l.set k 0) = (unf l).eraseIdx p := by
  rw [unf_set_zero l k hk, eraseIdx_filter _ p _ (unf_nodup l) hp]

theorem sum_set (l : List Int) : ∀ (k : Nat) (x : Int), k < l.length → (l.set k x).sum = l.sum - l.getD k 0 + x := by
  induction l with
  | nil => intro k x h; simp at h
  | cons a l ih =>
    intro k x h
    match k with
    | 0 => simp; omega
    | k + 1 =>
      have := ih k x (by simpa using h)
      simp only [List.set_cons_succ, List.sum_cons, this, List.getD_cons_succ]
      omega

/-- The unfinished workers are those with steps left; no more than T steps in all. -/
structure OkO (T : Int) (s : List Int × List Int) (op : List Int) : Prop where
  open_ : op = unf s.2
  range : ∀ x ∈ s.2, 0 ≤ x ∧ x ≤ 1000000
  sum : (s.1.length : Int) + s.2.sum ≤ T

theorem OkO.at {T : Int} {s : List Int × List Int} {op : List Int} (h : OkO T s op) {i : Int} (hi : i ∈ op) : 0 ≤ i ∧ i.toNat < s.2.length ∧ 0 < s.2.getD i.toNat 0 ∧ s.2.getD i.toNat 0 ≤ 1000000 := by
  rw [h.open_, mem_unf] at hi
  obtain ⟨k, hk, rfl, h0⟩ := hi
  refine ⟨by omega, by simpa using hk, by simpa using h0, ?_⟩
  rw [Int.toNat_natCast, List.getD_eq_getElem?_getD, List.getElem?_eq_getElem hk]
  exact (h.range _ (List.getElem_mem hk)).2

theorem OkO.next {T : Int} {s : List Int × List Int} {op : List Int} (h : OkO T s op) {p : Nat} (hp : p < op.length) : OkO T (actO s (op.getD p 0)).2 (if (actO s (op.getD p 0)).1 then op.eraseIdx p else op) := by
  have hget : op[p]? = some (op.getD p 0) := by rw [List.getD_eq_getElem?_getD, List.getElem?_eq_getElem hp]; rfl
  obtain ⟨h1, h2, h3, h4⟩ := h.at (List.mem_of_getElem? hget)
  obtain ⟨k, hk⟩ := Int.eq_ofNat_of_zero_le h1
  rw [hk] at h2 h3 h4 hget ⊢
  obtain ⟨out, left⟩ := s
  rw [Int.toNat_natCast] at h2 h3 h4
  have h2 : k < left.length := h2
  have h3 : 0 < left.getD k 0 := h3
  have h4 : left.getD k 0 ≤ 1000000 := h4
  have e2 : (actO (out, left) k).2 = (out ++ [(k : Int)], left.set k (left.getD k 0 - 1)) := by simp [actO]
  have e1 : (actO (out, left) k).1 = (left.getD k 0 - 1 == 0) := by simp [actO]
  rw [e2]
  refine ⟨?_, ?_, ?_⟩
  · show _ = unf (left.set k (left.getD k 0 - 1))
    have ho : op = unf left := h.open_
    by_cases hz : left.getD k 0 - 1 = 0
    · rw [e1, hz, unf_erase left p k h2 (by rw [← ho]; exact hget), ho]; rfl
    · have : (left.getD k 0 - 1 == 0) = false := by rw [beq_eq_false_iff_ne]; exact hz
      rw [e1, this, unf_set_pos left k _ h2 h3 (by omega), ho]; rfl
  · intro x hx
    rcases List.mem_or_eq_of_mem_set hx with hx | rfl
    · exact h.range x hx
    · omega
  · have := h.sum
    show (((out ++ [(k : Int)]).length : Nat) : Int) + (left.set k (left.getD k 0 - 1)).sum ≤ T
    rw [sum_set left k _ h2]
    simp only [List.length_append, List.length_cons, List.length_nil] at this ⊢
    omega

theorem sum_nonneg : ∀ (l : List Int), (∀ x ∈ l, 0 ≤ x) → 0 ≤ l.sum
  | [], _ => by simp
  | a :: l, h => by
    have := sum_nonneg l fun x hx => h x (by simp [hx])
    have := h a (by simp)
    simp only [List.sum_cons]
    omega

theorem unf_all (l : List Int) (h : ∀ x ∈ l, 0 < x) : unf l = upto l.length := by
  unfold unf unfTo upto
  congr 1
  rw [List.filter_eq_self]
  intro k hk
  rw [List.mem_range] at hk
  rw [List.getD_eq_getElem?_getD, List.getElem?_eq_getElem hk]
  simpa using h _ (List.getElem_mem hk)

end Go.Proofs.Ytambnijbbnohfaa
