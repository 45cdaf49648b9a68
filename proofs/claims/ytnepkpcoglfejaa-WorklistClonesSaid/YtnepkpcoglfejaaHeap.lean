/- Binary heaps and sorted lists, in plain Lean. -/
import Derived.Sort.Statements
namespace Go.Proofs.Ytnepkpcoglfejaa

section
variable {E : Type} {bf : E → E → Bool}

/-- What is asked of 'before'. -/
structure Ord (bf : E → E → Bool) : Prop where
  irr : ∀ a, bf a a = false
  tr : ∀ a b c, bf a b = true → bf b c = true → bf a c = true
  nt : ∀ a b c, bf a b = false → bf b c = false → bf a c = false
theorem Ord.asym (h : Ord bf) {a b : E} (e : bf a b = true) : bf b a = false := by
  cases hb : bf b a
  · rfl
  · have := h.tr _ _ _ e hb
    rw [h.irr] at this
    cases this

/-- Entry j does not come before its parent. -/
def Cd (bf : E → E → Bool) (hs : List E) (j : Nat) : Prop := ∀ a b, hs[j]? = some a → hs[(j - 1) / 2]? = some b → bf a b = false
def HeapOk (bf : E → E → Bool) (hs : List E) : Prop := ∀ j, 0 < j → Cd bf hs j
/-- A heap but for i against its parent. -/
structure UpI (bf : E → E → Bool) (hs : List E) (i : Nat) : Prop where
  cd : ∀ j, 0 < j → j ≠ i → Cd bf hs j
  gp : 0 < i → ∀ j a b, (j - 1) / 2 = i → 0 < j → hs[j]? = some a → hs[(i - 1) / 2]? = some b → bf a b = false
/-- A heap but for i against its children. -/
structure DownI (bf : E → E → Bool) (hs : List E) (i : Nat) : Prop where
  cd : ∀ j, 0 < j → (j - 1) / 2 ≠ i → Cd bf hs j
  gp : 0 < i → ∀ j a b, (j - 1) / 2 = i → 0 < j → hs[j]? = some a → hs[(i - 1) / 2]? = some b → bf a b = false

theorem sw_at {hs : List E} {i p : Nat} {a b : E} (hi : hs[i]? = some a) (hp : hs[p]? = some b) (hne : i ≠ p) (j : Nat) :
    ((hs.set i b).set p a)[j]? = if j = p then some a else if j = i then some b else hs[j]? := by
  have h1 := (List.getElem?_eq_some_iff.1 hi).1
  have h2 := (List.getElem?_eq_some_iff.1 hp).1
  rw [List.getElem?_set, List.getElem?_set, List.length_set]
  by_cases ep : p = j
  · subst ep
    simp [h2]
  · by_cases ei : i = j
    · subst ei
      simp [ep, h1, hne]
    · simp [ep, ei, show ¬ j = p from fun e => ep e.symm, show ¬ j = i from fun e => ei e.symm]

theorem UpI.step (O : Ord bf) {hs : List E} {i : Nat} {a b : E} (h : UpI bf hs i) (hi0 : 0 < i) (hi : hs[i]? = some a) (hp : hs[(i - 1) / 2]? = some b) (hb : bf a b = true) :
    UpI bf ((hs.set i b).set ((i - 1) / 2) a) ((i - 1) / 2) := by
  have hne : i ≠ (i - 1) / 2 := by omega
  generalize ep : (i - 1) / 2 = p at *
  refine ⟨?_, ?_⟩
  · intro j hj hjp x y hx hy
    rw [sw_at hi hp hne] at hx hy
    rw [if_neg hjp] at hx
    by_cases ej : j = i
    · subst ej
      rw [if_pos rfl] at hx
      rw [if_pos ep] at hy
      injection hx with hx; injection hy with hy
      subst hx; subst hy
      exact O.asym hb
    · rw [if_neg ej] at hx
      by_cases eq : (j - 1) / 2 = p
      · rw [if_pos eq] at hy
        injection hy with hy
        subst hy
        have hc := h.cd j hj ej x b hx (by rw [eq]; exact hp)
        cases hxa : bf x a
        · rfl
        · rw [O.tr _ _ _ hxa hb] at hc
          exact hc
      · rw [if_neg eq] at hy
        by_cases eq2 : (j - 1) / 2 = i
        · rw [if_pos eq2] at hy
          injection hy with hy
          subst hy
          exact h.gp hi0 j x b eq2 hj hx (by rw [ep]; exact hp)
        · rw [if_neg eq2] at hy
          exact h.cd j hj ej x y hx hy
  · intro hp0 j x d ejp hj hx hd
    rw [sw_at hi hp hne] at hx hd
    rw [if_neg (by omega), if_neg (by omega)] at hd
    have hbd : bf b d = false := h.cd p hp0 (by omega) b d hp hd
    rw [if_neg (by omega)] at hx
    by_cases ej : j = i
    · rw [if_pos ej] at hx
      injection hx with hx
      subst hx
      exact hbd
    · rw [if_neg ej] at hx
      exact O.nt _ _ _ (h.cd j hj ej x b hx (by rw [ejp]; exact hp)) hbd
theorem UpI.stop0 {hs : List E} (h : UpI bf hs 0) : HeapOk bf hs := fun j hj => h.cd j hj (by omega)
theorem UpI.stop {hs : List E} {i : Nat} {a b : E} (h : UpI bf hs i) (hi : hs[i]? = some a) (hp : hs[(i - 1) / 2]? = some b) (hb : bf a b = false) : HeapOk bf hs := by
  intro j hj
  by_cases e : j = i
  · subst e
    intro x y hx hy
    rw [hi] at hx; rw [hp] at hy
    injection hx with hx; injection hy with hy
    subst hx; subst hy
    exact hb
  · exact h.cd j hj e

theorem DownI.step (O : Ord bf) {hs : List E} {i k : Nat} {a c : E} (h : DownI bf hs i) (hk : (k - 1) / 2 = i) (hk0 : 0 < k) (hi : hs[i]? = some a) (hkc : hs[k]? = some c) (hb : bf c a = true)
    (ho : ∀ j x, (j - 1) / 2 = i → 0 < j → hs[j]? = some x → bf x c = false) :
    DownI bf ((hs.set i c).set k a) k := by
  have hne : i ≠ k := by omega
  refine ⟨?_, ?_⟩
  · intro j hj hjk x y hx hy
    rw [sw_at hi hkc hne] at hx hy
    rw [if_neg hjk] at hy
    by_cases ej : j = k
    · subst ej
      rw [if_pos rfl] at hx
      rw [if_pos hk] at hy
      injection hx with hx; injection hy with hy
      subst hx; subst hy
      exact O.asym hb
    · rw [if_neg ej] at hx
      by_cases ej2 : j = i
      · subst ej2
        rw [if_pos rfl] at hx
        injection hx with hx
        subst hx
        rw [if_neg (by omega)] at hy
        exact h.gp hj k c y hk hk0 hkc hy
      · rw [if_neg ej2] at hx
        by_cases eq : (j - 1) / 2 = i
        · rw [if_pos eq] at hy
          injection hy with hy
          subst hy
          exact ho j x eq hj hx
        · rw [if_neg eq] at hy
          exact h.cd j hj eq x y hx hy
  · intro _ j x y ej hj hx hy
    rw [sw_at hi hkc hne] at hx hy
    rw [if_neg (by omega), if_pos hk] at hy
    injection hy with hy
    subst hy
    rw [if_neg (by omega), if_neg (by omega)] at hx
    exact h.cd j hj (by omega) x c hx (by rw [ej]; exact hkc)
theorem DownI.stop {hs : List E} {i : Nat} (h : DownI bf hs i) (ho : ∀ j x y, (j - 1) / 2 = i → 0 < j → hs[j]? = some x → hs[i]? = some y → bf x y = false) : HeapOk bf hs := by
  intro j hj
  by_cases e : (j - 1) / 2 = i
  · intro x y hx hy
    rw [e] at hy
    exact ho j x y e hj hx hy
  · exact h.cd j hj e

theorem HeapOk.min (O : Ord bf) {hs : List E} (h : HeapOk bf hs) {r : E} (hr : hs[0]? = some r) : ∀ (i : Nat) (e : E), hs[i]? = some e → bf e r = false := by
  intro i
  induction i using Nat.strongRecOn with
  | _ i ih =>
    intro e he
    by_cases h0 : i = 0
    · subst h0
      rw [hr] at he
      injection he with he
      subst he
      exact O.irr _
    · have hl := (List.getElem?_eq_some_iff.1 he).1
      obtain ⟨b, hb⟩ : ∃ b, hs[(i - 1) / 2]? = some b := ⟨_, List.getElem?_eq_getElem (by omega)⟩
      exact O.nt _ _ _ (h i (by omega) e b he hb) (ih _ (by omega) b hb)

theorem sw_perm {hs : List E} {i p : Nat} {a b : E} (hi : hs[i]? = some a) (hp : hs[p]? = some b) : ((hs.set i b).set p a).Perm hs := by
  obtain ⟨h1, rfl⟩ := List.getElem?_eq_some_iff.1 hi
  obtain ⟨h2, rfl⟩ := List.getElem?_eq_some_iff.1 hp
  exact List.set_set_perm h1 h2

/-! The entries in their order. -/
def Srt (bf : E → E → Bool) (S : List E) : Prop := S.Pairwise fun a b => bf a b = true
/-- An entry goes behind all that come before it. -/
def ins (bf : E → E → Bool) (e : E) : List E → List E
  | [] => [e]
  | x :: l => if bf e x then e :: x :: l else x :: ins bf e l
theorem ins_perm (e : E) : ∀ l, (ins bf e l).Perm (e :: l)
  | [] => .refl _
  | x :: l => by
    rw [ins]
    split
    · exact .refl _
    · exact ((ins_perm e l).cons x).trans (.swap ..)
theorem ins_srt (O : Ord bf) (e : E) : ∀ l, Srt bf l → (∀ x ∈ l, bf e x = true ∨ bf x e = true) → Srt bf (ins bf e l)
  | [], _, _ => List.pairwise_singleton _ _
  | x :: l, h, hc => by
    obtain ⟨h1, h2⟩ := List.pairwise_cons.1 h
    rw [ins]
    split
    · rename_i hx
      refine List.pairwise_cons.2 ⟨fun y hy => ?_, h⟩
      rcases List.mem_cons.1 hy with rfl | hy
      · exact hx
      · exact O.tr _ _ _ hx (h1 y hy)
    · rename_i hx
      refine List.pairwise_cons.2 ⟨fun y hy => ?_, ins_srt O e l h2 fun z hz => hc z (List.mem_cons_of_mem _ hz)⟩
      rcases List.mem_cons.1 ((ins_perm e l).mem_iff.1 hy) with rfl | hy
      · rcases hc x (List.mem_cons_self ..) with h3 | h3
        · exact absurd h3 hx
        · exact h3
      · exact h1 y hy
theorem srt_unique (O : Ord bf) : ∀ {l m : List E}, Srt bf l → Srt bf m → l.Perm m → l = m
  | [], m, _, _, h => h.nil_eq
  | x :: l, [], _, _, h => absurd h.length_eq (by simp)
  | x :: l, y :: m, h1, h2, h => by
    obtain ⟨a1, a2⟩ := List.pairwise_cons.1 h1
    obtain ⟨b1, b2⟩ := List.pairwise_cons.1 h2
    have e : x = y := by
      rcases List.mem_cons.1 (h.mem_iff.1 (List.mem_cons_self ..) : x ∈ y :: m) with e | hx
      · exact e
      · rcases List.mem_cons.1 (h.mem_iff.2 (List.mem_cons_self ..) : y ∈ x :: l) with e | hy
        · exact e.symm
        · have := O.asym (a1 y hy)
          rw [b1 x hx] at this
          cases this
    subst e
    rw [srt_unique O a2 b2 (List.Perm.cons_inv h)]
theorem srt_heap {S : List E} (O : Ord bf) (h : Srt bf S) : HeapOk bf S := by
  intro j hj a b ha hb
  obtain ⟨h1, rfl⟩ := List.getElem?_eq_some_iff.1 ha
  obtain ⟨h2, rfl⟩ := List.getElem?_eq_some_iff.1 hb
  exact O.asym (List.pairwise_iff_getElem.1 h _ _ h2 h1 (by omega))

/-- hs is a heap of the entries S. -/
structure Hp (bf : E → E → Bool) (hs S : List E) : Prop where
  perm : hs.Perm S
  ok : HeapOk bf hs
  srt : Srt bf S
theorem Hp.nil : Hp bf [] [] := ⟨.refl _, fun _ _ _ _ h => by simp at h, .nil⟩
theorem Hp.srt' (O : Ord bf) {S : List E} (h : Srt bf S) : Hp bf S S := ⟨.refl _, srt_heap O h, h⟩
theorem Hp.head (O : Ord bf) {hs S : List E} {r : E} (h : Hp bf hs S) (hr : hs[0]? = some r) : ∃ S', S = r :: S' := by
  have hm : r ∈ S := h.perm.mem_iff.1 (List.mem_of_getElem? hr)
  match S, h.srt, hm, h.perm with
  | s :: S', hs', hm, hp =>
    rcases List.mem_cons.1 hm with rfl | hm
    · exact ⟨_, rfl⟩
    · have h1 := (List.pairwise_cons.1 hs').1 r hm
      obtain ⟨i, hi⟩ := List.mem_iff_getElem?.1 (hp.mem_iff.2 (List.mem_cons_self ..) : s ∈ hs)
      rw [h.ok.min O hr i s hi] at h1
      cases h1
/-- After a push, ahead of 'up'. -/
theorem Hp.push {hs S : List E} (h : Hp bf hs S) (e : E) : UpI bf (hs ++ [e]) hs.length := by
  refine ⟨fun j hj hne a b ha hb => ?_, fun _ j a b ej hj ha _ => ?_⟩
  · have hl := (List.getElem?_eq_some_iff.1 ha).1
    rw [List.length_append, List.length_singleton] at hl
    rw [List.getElem?_append_left (by omega)] at ha hb
    exact h.ok j hj a b ha hb
  · have hl := (List.getElem?_eq_some_iff.1 ha).1
    rw [List.length_append, List.length_singleton] at hl
    omega
/-- The heap behind a pop, ahead of 'down'. -/
theorem pop_down {hs : List E} {n : Nat} {x : E} (h : HeapOk bf hs) : DownI bf ((hs.set 0 x).take n) 0 := by
  refine ⟨fun j hj hne a b ha hb => ?_, fun h0 => absurd h0 (by omega)⟩
  have e1 : ∀ k y, k ≠ 0 → ((hs.set 0 x).take n)[k]? = some y → hs[k]? = some y := fun k y hk hy => by
    have hl := (List.getElem?_eq_some_iff.1 hy).1
    rw [List.length_take] at hl
    rw [List.getElem?_take_of_lt (by omega), List.getElem?_set_ne (by omega)] at hy
    exact hy
  exact h j hj a b (e1 _ _ (by omega) ha) (e1 _ _ hne hb)
theorem pop_perm : ∀ {hs : List E} {n : Nat} {r x : E}, hs[0]? = some r → hs[n]? = some x → hs.length = n + 1 → (r :: (hs.set 0 x).take n).Perm hs
  | [], _, _, _, h, _, _ => by simp at h
  | a :: l, 0, r, x, h, hx, hl => by
    simp at h hl
    subst h
    subst hl
    exact .refl _
  | a :: l, n + 1, r, x, h, hx, hl => by
    simp at h hx hl
    subst h
    rw [List.set_cons_zero, List.take_succ_cons]
    refine List.Perm.cons _ ?_
    obtain ⟨h1, rfl⟩ := List.getElem?_eq_some_iff.1 hx
    have : l = l.take n ++ [l[n]] := by
      rw [List.take_append_getElem h1]
      exact (List.take_of_length_le (by omega)).symm
    have hp : (l[n] :: l.take n).Perm (l.take n ++ [l[n]]) := (List.perm_append_singleton _ _).symm
    rw [← this] at hp
    exact hp
end

/-! Numbered items. -/
section
variable {α : Type} {lt : α → α → Bool}
def bfr (lt : α → α → Bool) (a b : α × Int) : Bool := lt a.1 b.1 || (!lt b.1 a.1 && decide (a.2 < b.2))
theorem bfr_ord (O : Ord lt) : Ord (bfr lt) := by
  refine ⟨fun a => ?_, fun a b c h1 h2 => ?_, fun a b c h1 h2 => ?_⟩
  · simp [bfr, O.irr]
  · simp only [bfr, Bool.or_eq_true, Bool.and_eq_true, Bool.not_eq_true', decide_eq_true_eq] at *
    rcases h1 with h1 | ⟨h1, h1'⟩ <;> rcases h2 with h2 | ⟨h2, h2'⟩
    · exact .inl (O.tr _ _ _ h1 h2)
    · left
      cases h : lt a.1 c.1
      · rw [O.nt _ _ _ h h2] at h1
        cases h1
      · rfl
    · left
      cases h : lt a.1 c.1
      · rw [O.nt _ _ _ h1 h] at h2
        cases h2
      · rfl
    · exact .inr ⟨O.nt _ _ _ h2 h1, by omega⟩
  · simp only [bfr, Bool.or_eq_false_iff, Bool.and_eq_false_iff, Bool.not_eq_false', decide_eq_false_iff_not] at *
    refine ⟨O.nt _ _ _ h1.1 h2.1, ?_⟩
    rcases h1.2 with h3 | h3
    · left
      cases h : lt c.1 a.1
      · rw [O.nt _ _ _ h2.1 h] at h3
        cases h3
      · rfl
    · rcases h2.2 with h4 | h4
      · left
        cases h : lt c.1 a.1
        · rw [O.nt _ _ _ h h1.1] at h4
          cases h4
        · rfl
      · exact .inr (by omega)
theorem bfr_tot {a b : α × Int} (h : a.2 ≠ b.2) : bfr lt a b = true ∨ bfr lt b a = true := by
  simp only [bfr, Bool.or_eq_true, Bool.and_eq_true, Bool.not_eq_true', decide_eq_true_eq]
  cases h1 : lt a.1 b.1 <;> cases h2 : lt b.1 a.1 <;> simp
  omega

/-- A list in memory: hs a heap of the entries S, numbers below N, none twice. -/
structure Wk (lt : α → α → Bool) (hs S : List (α × Int)) (N : Nat) : Prop extends Hp (bfr lt) hs S where
  lo : ∀ e ∈ S, 0 ≤ e.2
  hi : ∀ e ∈ S, e.2 < N
  nd : (S.map (·.2)).Nodup
theorem Wk.nil : Wk lt [] [] 0 := ⟨Hp.nil, by simp, by simp, by simp⟩
theorem Wk.len {hs S : List (α × Int)} {N : Nat} (h : Wk lt hs S N) : hs.length = S.length := h.perm.length_eq
theorem Wk.pushed (O : Ord lt) {hs S hs' : List (α × Int)} {N : Nat} (h : Wk lt hs S N) (x : α) (hp : hs'.Perm (hs ++ [(x, (N : Int))])) (ho : HeapOk (bfr lt) hs') : Wk lt hs' (ins (bfr lt) (x, (N : Int)) S) (N + 1) := by
  have hi := ins_perm (bf := bfr lt) (x, (N : Int)) S
  refine ⟨⟨hp.trans (((List.perm_append_singleton _ _).trans (h.perm.cons _)).trans hi.symm), ho, ins_srt (bfr_ord O) _ _ h.srt fun y hy => bfr_tot ?_⟩, fun e he => ?_, fun e he => ?_, ?_⟩
  · have := h.hi y hy
    show (N : Int) ≠ y.2
    omega
  · rcases List.mem_cons.1 (hi.mem_iff.1 he) with rfl | he
    · exact Int.natCast_nonneg _
    · exact h.lo e he
  · rcases List.mem_cons.1 (hi.mem_iff.1 he) with rfl | he
    · show (N : Int) < ((N + 1 : Nat) : Int)
      omega
    · have := h.hi e he
      omega
  · refine (hi.map (·.2)).nodup_iff.2 ?_
    rw [List.map_cons, List.nodup_cons]
    refine ⟨fun hm => ?_, h.nd⟩
    obtain ⟨y, hy, e⟩ := List.mem_map.1 hm
    have := h.hi y hy
    simp at e
    omega
theorem Wk.popped (O : Ord lt) {hs S hs' : List (α × Int)} {N : Nat} {r : α × Int} (h : Wk lt hs S N) (hr : hs[0]? = some r) (hp : (r :: hs').Perm hs) (ho : HeapOk (bfr lt) hs') : ∃ S', S = r :: S' ∧ Wk lt hs' S' N := by
  obtain ⟨S', rfl⟩ := h.toHp.head (bfr_ord O) hr
  refine ⟨S', rfl, ⟨⟨List.Perm.cons_inv (hp.trans h.perm), ho, (List.pairwise_cons.1 h.srt).2⟩, fun e he => h.lo e (List.mem_cons_of_mem _ he), fun e he => h.hi e (List.mem_cons_of_mem _ he), ?_⟩⟩
  have := h.nd
  rw [List.map_cons, List.nodup_cons] at this
  exact this.2
theorem Wk.kept (O : Ord lt) {hs S : List (α × Int)} {N : Nat} (h : Wk lt hs S N) (p : α × Int → Bool) : Wk lt (S.filter p) (S.filter p) N :=
  ⟨Hp.srt' (bfr_ord O) (h.srt.sublist List.filter_sublist), fun e he => h.lo e (List.mem_filter.1 he).1, fun e he => h.hi e (List.mem_filter.1 he).1, h.nd.sublist (List.filter_sublist.map _)⟩
end

/-! Binary digits. -/
def dg (n : Nat) : Nat := if h : n = 0 then 0 else dg (n / 2) + 1
decreasing_by omega
theorem dg_zero : dg 0 = 0 := by rw [dg]; rfl
theorem dg_pos {n : Nat} (h : 0 < n) : dg n = dg (n / 2) + 1 := by
  rw [dg]
  exact dif_neg (by omega)
theorem dg_mono : ∀ {n m : Nat}, n ≤ m → dg n ≤ dg m := by
  intro n m
  induction m using Nat.strongRecOn generalizing n with
  | _ m ih =>
    intro h
    by_cases h0 : n = 0
    · subst h0
      rw [dg_zero]
      omega
    · rw [dg_pos (by omega), dg_pos (show 0 < m by omega)]
      have := ih (m / 2) (by omega) (n := n / 2) (by omega)
      omega
theorem dg_up {i : Nat} (h : 0 < i) : dg ((i - 1) / 2) + 1 ≤ dg i := by
  rw [dg_pos h]
  have := dg_mono (show (i - 1) / 2 ≤ i / 2 by omega)
  omega
theorem dg_down {n i k : Nat} (h : 2 * i + 1 ≤ k) (hk : k < n) : dg (n / (k + 1)) + 1 ≤ dg (n / (i + 1)) := by
  have h1 : 0 < n / (i + 1) := Nat.div_pos (by omega) (by omega)
  rw [dg_pos h1, Nat.div_div_eq_div_mul]
  have h2 : n / (k + 1) ≤ n / ((i + 1) * 2) := Nat.div_le_div_left (by omega) (by omega)
  have := dg_mono h2
  omega

end Go.Proofs.Ytnepkpcoglfejaa
