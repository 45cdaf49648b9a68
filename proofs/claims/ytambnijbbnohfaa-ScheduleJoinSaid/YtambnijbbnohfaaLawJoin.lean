/- The walk of ScheduleJoin: the functions are made. -/
import Derived.Test.YtambnijbbnohfaaJoinP
import Derived.Test.YtambnijbbnohfaaLawOrder
namespace Go.Proofs.Ytambnijbbnohfaa
open Go.RowKit

/-- The functions xs have been made; the steps that are wanted are wl so far. -/
structure MkRel (B bg : Nat) (zs : List Int) (xs : List Nat) (vwant : Value) (wl : List Int) (vl : Value) (w : World) : Prop where
  size : B ≤ w.heap.size
  want : OwnI w B vwant wl
  row : w.ownsRow B 34 1 vl xs.length (xs.map (fv bg))
  hbg : B ≤ bg ∧ Bk w bg 22 #[.slice none 0 0]
  ges : ∀ x ∈ xs, B ≤ x ∧ x + 2 < w.heap.size
  apart : xs.Pairwise (fun x y => x + 2 < y)
  kc : ∀ i (h : i < xs.length), Bk w (xs[i] + 2) 3 #[.int .i64 0]
  ic : ∀ i (h : i < xs.length), Bk w xs[i] 3 #[.int .i64 i]
  nc : ∀ i (h : i < xs.length), Bk w (xs[i] + 1) 3 #[.int .i64 (zs.getD i 0)]
  off : ∀ b, vwant.ownBlock = some b → ∀ x ∈ xs, b ≠ x ∧ b ≠ x + 1 ∧ b ≠ x + 2

theorem MkRel.start (w : World) (zs : List Int) : MkRel w.heap.size w.heap.size zs [] (.slice none 0 0) [] (.slice none 0 0) (w.alloc (.cells #[.slice none 0 0] 22)) :=
  ⟨by simp, OwnI.nil _ _, World.ownsRow_nil _ _ _ _, ⟨Nat.le_refl _, Bk.made _ _ _⟩, by simp, by simp, fun i h => by simp at h, fun i h => by simp at h, fun i h => by simp at h, fun b e => by cases e⟩

/-- One function more: its variables lie in three new blocks, the list of the workers has grown by it. -/
theorem MkRel.more {B bg k : Nat} {zs wl : List Int} {xs : List Nat} {vwant vl vl' : Value} {z : Int} {w w1 : World} (h : MkRel B bg zs xs vwant wl vl w) (hlen : xs.length = k) (hz : zs.getD k 0 = z)
    (hrow : w1.ownsRow B 34 1 vl' (xs.map (fv bg) ++ [fv bg w.heap.size]).length (xs.map (fv bg) ++ [fv bg w.heap.size]))
    (hsz : w.heap.size + 3 ≤ w1.heap.size) (hkeep : ∀ b, b < w.heap.size → vl.ownBlock ≠ some b → w1.heap[b]? = w.heap[b]?)
    (hi : Bk w1 w.heap.size 3 #[.int .i64 k]) (hn : Bk w1 (w.heap.size + 1) 3 #[.int .i64 z]) (hk : Bk w1 (w.heap.size + 2) 3 #[.int .i64 0]) : MkRel B bg zs (xs ++ [w.heap.size]) vwant wl vl' w1 := by
  obtain ⟨s1, s3, s4, s5, s6, s7, s8, s9, s10, s11⟩ := h
  subst hlen
  have kb : ∀ {g : Nat} {t : TypeId} {cs : Array Value}, Bk w g t cs → t ≠ 34 → Bk w1 g t cs := fun h ht => h.keep (hkeep _ h.lt (row_ne s4 h ht))
  refine ⟨by omega, s3.keep fun b e => hkeep b (s3.lt b e).2 (fun e' => row_row_ne s4 s3 (by decide) b e' e), by simpa using hrow, ⟨s5.1, kb s5.2 (by decide)⟩, ?_, ?_, ?_, ?_, ?_, ?_⟩
  · intro x hx
    simp at hx
    rcases hx with hx | rfl
    · have := s6 x hx; omega
    · omega
  · rw [List.pairwise_append]
    refine ⟨s7, by simp, fun a ha b hb => ?_⟩
    simp at hb
    subst hb
    have := s6 a ha; omega
  · intro i hi'
    by_cases h : i < xs.length
    · rw [List.getElem_append_left h]; exact kb (s8 i h) (by decide)
    · have : i = xs.length := by simp at hi'; omega
      subst this
      rw [List.getElem_append_right (by omega)]
      simpa using hk
  · intro i hi'
    by_cases h : i < xs.length
    · rw [List.getElem_append_left h]; exact kb (s9 i h) (by decide)
    · have : i = xs.length := by simp at hi'; omega
      subst this
      rw [List.getElem_append_right (by omega)]
      simpa using hi
  · intro i hi'
    by_cases h : i < xs.length
    · rw [List.getElem_append_left h]; exact kb (s10 i h) (by decide)
    · have : i = xs.length := by simp at hi'; omega
      subst this
      rw [List.getElem_append_right (by omega), hz]
      simpa using hn
  · intro b e x hx
    simp at hx
    rcases hx with hx | rfl
    · exact s11 b e x hx
    · have := (s3.lt b e).2
      omega

/-- One wanted step more. -/
theorem MkRel.wants {B bg : Nat} {zs wl : List Int} {xs : List Nat} {vwant vwant' vl : Value} {z : Int} {w w1 : World} (h : MkRel B bg zs xs vwant wl vl w)
    (hown : OwnI w1 B vwant' (wl ++ [z])) (hkeep : ∀ b, b < w.heap.size → vwant.ownBlock ≠ some b → w1.heap[b]? = w.heap[b]?) (hsz : w.heap.size ≤ w1.heap.size)
    (hob : vwant'.ownBlock = vwant.ownBlock ∨ ∀ b, vwant'.ownBlock = some b → w.heap.size < b) : MkRel B bg zs xs vwant' (wl ++ [z]) vl w1 := by
  obtain ⟨s1, s3, s4, s5, s6, s7, s8, s9, s10, s11⟩ := h
  refine ⟨by omega, hown, row_keep s4 fun b e => hkeep b (s4.lt b e).2 (fun e' => row_row_ne s4 s3 (by decide) b e e'), ⟨s5.1, s5.2.keep (hkeep _ s5.2.lt (s3.ne s5.2 (by decide)))⟩, fun x hx => by have := s6 x hx; omega, s7, fun i hi => ?_, fun i hi => ?_, fun i hi => ?_, fun b e x hx => ?_⟩
  · exact (s8 i hi).keep (hkeep _ (s8 i hi).lt (fun e => (s11 _ e _ (List.getElem_mem hi)).2.2 rfl))
  · exact (s9 i hi).keep (hkeep _ (s9 i hi).lt (fun e => (s11 _ e _ (List.getElem_mem hi)).1 rfl))
  · exact (s10 i hi).keep (hkeep _ (s10 i hi).lt (fun e => (s11 _ e _ (List.getElem_mem hi)).2.1 rfl))
  · rcases hob with hob | hob
    · rw [hob] at e
      exact s11 b e x hx
    · have := hob b e
      have := s6 x hx
      omega

/-- What Join makes of the functions. -/
theorem MkRel.join {B bg br n cr : Nat} {zs wl : List Int} {xs : List Nat} {vwant vl : Value} {Ar : Option Addr} {w w1 : World} (h : MkRel B bg zs xs vwant wl vl w) (hlen : xs.length = zs.length) (hn : xs.length = n) (hb : Below w.heap.size w w1) (hbr : w.heap.size ≤ br)
    (hvar : Bk w1 br 31 #[.slice Ar n cr]) (hrow : w1.ownsRow w.heap.size 34 1 (.slice Ar n cr) (xs.map (fv bg)).length (xs.map (fv bg))) :
    JS B w1.heap.size bg br xs zs Ar cr 0 0 [] w1 ∧ OwnI w1 B vwant wl ∧ (∀ b, vwant.ownBlock = some b → b < w1.heap.size ∧ b ≠ br ∧ b ≠ bg ∧ ∀ x ∈ xs, b ≠ x + 2) := by
  obtain ⟨s1, s3, s4, s5, s6, s7, s8, s9, s10, s11⟩ := h
  subst hn
  rw [List.length_map] at hrow
  have hsz := hb.size
  have hrow' : w1.ownsRow B 34 1 (.slice Ar xs.length cr) xs.length (xs.map (fv bg)) := by
    refine ⟨hrow.1, ?_⟩
    rcases hrow.2 with hn | ⟨g, cap, cur, hv, hg, rest⟩
    · exact .inl hn
    · exact .inr ⟨g, cap, cur, hv, by omega, rest⟩
  refine ⟨⟨⟨by omega, Nat.le_refl _⟩, hlen, hrow', ⟨(s5.2.below hb s5.2.lt).lt, hvar.lt, fun b e => (hrow.lt b e).2, fun x hx => by have := s6 x hx; omega⟩, ⟨s5.1, by omega, fun x hx => (s6 x hx).1⟩, s7, Nat.zero_le _, ⟨Ar, hvar, fun _ => by cases Ar <;> simp [Addr.add]⟩, fun i hi _ => ?_, fun i hi => (s9 i hi).below hb (s9 i hi).lt, fun i hi => (s10 i hi).below hb (s10 i hi).lt, .slice none 0 0, s5.2.below hb s5.2.lt, OwnI.nil _ _⟩, s3.below hb (Nat.le_refl _), fun b e => ?_⟩
  · have e : (if i = 0 then (0 : Int) else 0) = 0 := by split <;> rfl
    rw [e]
    exact (s8 i hi).below hb (s8 i hi).lt
  · have := (s3.lt b e).2
    exact ⟨by omega, by omega, fun e' => s3.ne s5.2 (by decide) (by rw [e, e']), fun x hx => (s11 b e x hx).2.2⟩

end Go.Proofs.Ytambnijbbnohfaa
