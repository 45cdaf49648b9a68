/- The entries after pushes of numbered keys, in plain Lean. -/
import Derived.Test.YtnepkpcoglfejaaLess
namespace Go.Proofs.Ytnepkpcoglfejaa

/-- The entries after t pushes. -/
def ent (ks : List Int) : Nat → List ((Int × Int) × Int)
  | 0 => []
  | t + 1 => ins (bfr ltA) ((ks.getD t 0, (t : Int)), (t : Int)) (ent ks t)
theorem ent_len (ks : List Int) : ∀ t, (ent ks t).length = t
  | 0 => rfl
  | t + 1 => by rw [ent, (ins_perm _ _).length_eq, List.length_cons, ent_len ks t]
theorem ent_mem (ks : List Int) : ∀ t e, e ∈ ent ks t → ∃ j : Nat, j < t ∧ e = ((ks.getD j 0, (j : Int)), (j : Int))
  | 0, e, h => by cases h
  | t + 1, e, h => by
    rcases List.mem_cons.1 ((ins_perm _ _).mem_iff.1 h) with rfl | h
    · exact ⟨t, by omega, rfl⟩
    · obtain ⟨j, hj, rfl⟩ := ent_mem ks t e h
      exact ⟨j, by omega, rfl⟩
theorem ent_at {ks : List Int} {t i : Nat} {e : (Int × Int) × Int} (h : (ent ks t)[i]? = some e) : ∃ j : Nat, j < t ∧ e = ((ks.getD j 0, (j : Int)), (j : Int)) := ent_mem ks t e (List.mem_of_getElem? h)
theorem ent_next {ks : List Int} {t i : Nat} {a b : (Int × Int) × Int} (hs : Srt (bfr ltA) (ent ks t)) (ha : (ent ks t)[i]? = some a) (hb : (ent ks t)[i + 1]? = some b) : a.1.1 < b.1.1 ∨ (a.1.1 = b.1.1 ∧ a.1.2 < b.1.2) := by
  obtain ⟨h1, e1⟩ := List.getElem?_eq_some_iff.1 ha
  obtain ⟨h2, e2⟩ := List.getElem?_eq_some_iff.1 hb
  have h := List.pairwise_iff_getElem.1 hs i (i + 1) h1 h2 (by omega)
  rw [e1, e2] at h
  obtain ⟨j, _, ej⟩ := ent_at ha
  obtain ⟨k, _, ek⟩ := ent_at hb
  subst ej; subst ek
  simp only [bfr, ltA, Bool.or_eq_true, Bool.and_eq_true, Bool.not_eq_true', decide_eq_true_eq, decide_eq_false_iff_not] at h ⊢
  omega

end Go.Proofs.Ytnepkpcoglfejaa
