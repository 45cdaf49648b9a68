/- Plain facts for ScheduleEvery: the script that leads to a given order. -/
import Derived.Test.YtambnijbbnohfaaRunC
namespace Go.Proofs.Ytambnijbbnohfaa
open Go.RowKit

/-- The strictly ascending list L has x at the place that is the number of its entries below x. -/
theorem asc_at : ∀ (L : List Int) (x : Int), L.Pairwise (· < ·) → x ∈ L → L.getD (L.countP (fun u => decide (u < x))) 0 = x ∧ L.countP (fun u => decide (u < x)) < L.length
  | [], x, _, hx => by simp at hx
  | a :: L, x, hp, hx => by
    rw [List.pairwise_cons] at hp
    rw [List.countP_cons]
    rcases List.mem_cons.mp hx with rfl | hx
    · have h0 : L.countP (fun u => decide (u < x)) = 0 := by
        rw [List.countP_eq_zero]
        intro u hu
        have := hp.1 u hu
        simp; omega
      rw [h0]
      simp
    · have ha := hp.1 x hx
      have ih := asc_at L x hp.2 hx
      have hd : decide (a < x) = true := by simpa using ha
      rw [hd]
      simp only [if_true, List.length_cons, List.getD_cons_succ]
      exact ⟨ih.1, by omega⟩

theorem unf_asc (l : List Int) : (unf l).Pairwise (· < ·) := by
  unfold unf unfTo
  refine List.Pairwise.map _ (fun a b h => ?_) (List.Pairwise.filter _ List.pairwise_lt_range)
  omega

/-- How many unfinished workers have a smaller number. -/
def belowN (left : List Int) (x : Int) : Nat := (unf left).countP (fun u => decide (u < x))
def dec1 (left : List Int) (x : Int) : List Int := left.set x.toNat (left.getD x.toNat 0 - 1)
def scriptOf : List Int → List Int → List Int
  | _, [] => []
  | left, x :: ws => (belowN left x : Int) :: scriptOf (dec1 left x) ws

theorem actO_eq (out left : List Int) (x : Int) : actO (out, left) x = (left.getD x.toNat 0 - 1 == 0, (out ++ [x], dec1 left x)) := rfl

/-- left counts the entries of ws. -/
def Counts (left ws : List Int) : Prop := ∀ k : Nat, left.getD k 0 = (ws.countP (fun x => decide (x = (k : Int))) : Int)

theorem counts_cons {left ws : List Int} {x : Int} (h : Counts left (x :: ws)) (hr : ∀ y ∈ x :: ws, 0 ≤ y ∧ y.toNat < left.length) :
    Counts (dec1 left x) ws ∧ 0 < left.getD x.toNat 0 := by
  obtain ⟨h0, hl⟩ := hr x (by simp)
  obtain ⟨q, rfl⟩ := Int.eq_ofNat_of_zero_le h0
  rw [Int.toNat_natCast] at hl
  have hq := h q
  have eq1 : decide ((q : Int) = (q : Int)) = true := by simp
  rw [List.countP_cons, eq1] at hq
  simp only [if_true] at hq
  refine ⟨fun k => ?_, ?_⟩
  · unfold dec1
    rw [Int.toNat_natCast, getD_set _ _ _ _ hl]
    have hk := h k
    rw [List.countP_cons] at hk
    by_cases e : k = q
    · subst e
      rw [if_pos rfl]
      omega
    · rw [if_neg e, hk]
      have : decide ((q : Int) = (k : Int)) = false := by simp; omega
      rw [this]
      simp
  · rw [Int.toNat_natCast]
    omega

theorem unf_counts_nil {left : List Int} (h : Counts left []) : unf left = [] := by
  rw [List.eq_nil_iff_forall_not_mem]
  intro i hi
  obtain ⟨k, _, _, h0⟩ := mem_unf.mp hi
  have := h k
  rw [List.countP_nil] at this
  omega

theorem run_script : ∀ (ws left out : List Int) (last : Int), Counts left ws → (∀ x ∈ ws, 0 ≤ x ∧ x.toNat < left.length) →
    (runF actO ws.length (unf left) (scriptOf left ws) last (out, left)).1 = ws.length ∧ (runF actO ws.length (unf left) (scriptOf left ws) last (out, left)).2.1 = true ∧ (runF actO ws.length (unf left) (scriptOf left ws) last (out, left)).2.2.1 = out ++ ws
  | [], left, out, last, hc, _ => by
    rw [unf_counts_nil hc]
    simp [runF_nil]
  | x :: ws, left, out, last, hc, hr => by
    obtain ⟨hc', hpos⟩ := counts_cons hc hr
    obtain ⟨h0, hl⟩ := hr x (by simp)
    have hx : x ∈ unf left := mem_unf.mpr ⟨x.toNat, hl, by omega, hpos⟩
    obtain ⟨ha, hb⟩ := asc_at (unf left) x (unf_asc left) hx
    have hpl : place (unf left) (scriptOf left (x :: ws)) last = belowN left x := by
      show (((belowN left x : Int)) % ((unf left).length : Int)).toNat = belowN left x
      unfold belowN at *
      rw [Int.emod_eq_of_lt (by omega) (by omega)]
      omega
    have hlen : 0 < (unf left).length := List.length_pos_of_mem hx
    have hget : (unf left).getD (belowN left x) 0 = x := ha
    have hopen : (if (actO (out, left) x).1 then (unf left).eraseIdx (belowN left x) else unf left) = unf (dec1 left x) := by
      have hat : (unf left)[belowN left x]? = some ((x.toNat : Nat) : Int) := by
        have hb' : belowN left x < (unf left).length := hb
        have hg := hget
        rw [List.getD_eq_getElem?_getD, List.getElem?_eq_getElem hb', Option.getD_some] at hg
        rw [List.getElem?_eq_getElem hb']
        congr 1
        omega
      have e1 : (actO (out, left) x).1 = (left.getD x.toNat 0 - 1 == 0) := rfl
      unfold dec1
      by_cases hz : left.getD x.toNat 0 - 1 = 0
      · rw [e1, hz, unf_erase left _ _ hl hat]; rfl
      · have : (left.getD x.toNat 0 - 1 == 0) = false := by rw [beq_eq_false_iff_ne]; exact hz
        rw [e1, this, unf_set_pos left _ _ hl hpos (by omega)]; rfl
    have ih := run_script ws (dec1 left x) (out ++ [x]) x hc' (fun y hy => by
      have := hr y (by simp [hy])
      unfold dec1
      rw [List.length_set]
      exact this)
    rw [List.length_cons, runF_succ _ _ _ _ _ _ hlen, hpl, hget, hopen]
    have e2 : (actO (out, left) x).2 = (out ++ [x], dec1 left x) := rfl
    have e3 : (scriptOf left (x :: ws)).tail = scriptOf (dec1 left x) ws := rfl
    rw [e2, e3]
    refine ⟨by rw [ih.1], ih.2.1, ?_⟩
    rw [ih.2.2]
    simp

end Go.Proofs.Ytambnijbbnohfaa
