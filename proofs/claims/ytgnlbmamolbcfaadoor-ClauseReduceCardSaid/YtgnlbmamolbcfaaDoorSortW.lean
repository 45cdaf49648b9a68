/- The world behind a sort of structs. No program in sight. -/
import Derived.Test.YtgnlbmamolbcfaaDoorCmp
import Derived.Shelf.SlSortCmp.WholeK
namespace Go.Proofs.YtgnlbmamolbcfaaDoor
open Go.RowKit Go.Sort Go.Shelf

section
variable {α : Type} [Inhabited α] {enc : α → List Value} {k : Nat}

theorem flatK_at (hk : ∀ a, (enc a).length = k) (d : Array α) {t : Nat} (ht : t < d.size * k) : (d.toList.flatMap enc)[t]? = some (flatK enc k d)[t]! := by
  have hk0 : 0 < k := by
    rcases Nat.eq_zero_or_pos k with h | h
    · subst h; simp at ht
    · exact h
  have h1 : t / k < d.size := (Nat.div_lt_iff_lt_mul hk0).2 ht
  have h2 : d.toList[t / k]? = some d[t / k]! := by
    rw [Array.getElem?_toList, getElem!_pos d (t / k) h1]
    exact Array.getElem?_eq_getElem h1
  have h3 := flat_at (F := enc) (k := k) hk h2 (Nat.mod_lt t hk0)
  rw [Nat.mul_comm, Nat.div_add_mod] at h3
  rw [h3, get_flatK enc k d t ht, List.getElem!_eq_getElem?_getD]
  have h4 : t % k < (enc d[t / k]!).length := by rw [hk]; exact Nat.mod_lt t hk0
  rw [List.getElem?_eq_getElem h4]
  rfl

theorem sw_heap (w : World) (g n b : Nat) (d : Array α) (os : Array Obj) (hb : b < w.heap.size) (hne : b ≠ g) : (sortWorldK enc k w g 0 n d os).heap[b]? = w.heap[b]? := by
  unfold sortWorldK grow putRowK putRow mapBlock
  simp only [heap_ahead]
  rw [Array.getElem?_append_left (by simpa using hb), Array.getElem?_modify, if_neg (fun e => hne e.symm)]
theorem sw_size (w : World) (g n : Nat) (d : Array α) (os : Array Obj) : (sortWorldK enc k w g 0 n d os).heap.size = w.heap.size + os.size := by
  unfold sortWorldK grow putRowK putRow mapBlock
  simp
theorem sw_fr (w : World) (g n : Nat) (d : Array α) (os : Array Obj) : Fr (fun b => b = g) w (sortWorldK enc k w g 0 n d os) :=
  ⟨⟨rfl, rfl, rfl, by rw [sw_size]; omega, fun b hb => absurd hb (Nat.not_lt_zero b)⟩, fun b hb hne => sw_heap w g n b d os hb hne⟩
theorem sw_bk {w : World} {g n e : Nat} {d : Array α} {os : Array Obj} {cur : Array Value} (h : Bk w g e cur) : Bk (sortWorldK enc k w g 0 n d os) g e (putCells id 0 (flatK enc k d) cur) := by
  have hg := h.lt
  unfold Bk at h ⊢
  unfold sortWorldK grow putRowK putRow mapBlock
  simp only [heap_ahead]
  rw [Array.getElem?_append_left (by simpa using hg), Array.getElem?_modify, if_pos rfl, h]
  rfl
theorem sw_row (hk : ∀ a, (enc a).length = k) {w : World} {g n m e B cap : Nat} {d d0 : Array α} {os : Array Obj} (h : w.ownsRow B e k (.slice (some ⟨g, 0, none⟩) n cap) n (d0.toList.flatMap enc)) (hd : d.size = n) :
    (sortWorldK enc k w g 0 m d os).ownsRow B e k (.slice (some ⟨g, 0, none⟩) n cap) n (d.toList.flatMap enc) := by
  obtain ⟨h1, ⟨h2, _⟩ | ⟨g', cap', cur, hv, hB, hh, hc, hx, hs, ht⟩⟩ := h
  · cases h2
  · injection hv with hv hv2 hv3
    injection hv with hv
    injection hv with hv
    subst hv
    subst hv3
    have hlen : (d.toList.flatMap enc).length = n * k := by rw [flat_len hk, Array.length_toList, hd]
    refine ⟨hlen, .inr ⟨g, cap, _, rfl, hB, sw_bk hh, hc, hx, by simp [putCells, hs], ?_⟩⟩
    apply List.ext_getElem?
    intro t
    by_cases htn : t < n * k
    · have hts : t < d.size * k := by rw [hd]; exact htn
      have htc : t < cur.size := by rw [hs]; exact Nat.lt_of_lt_of_le htn (Nat.mul_le_mul_right k hc)
      rw [List.getElem?_take_of_lt htn, flatK_at hk d hts, Array.getElem?_toList, putCells, Array.getElem?_mapIdx, Array.getElem?_eq_getElem htc]
      simp [hts]
    · rw [List.getElem?_eq_none (by rw [List.length_take]; omega), List.getElem?_eq_none (by rw [hlen]; omega)]
theorem sw_holds (hk : ∀ a, (enc a).length = k) {w : World} {g n e B cap : Nat} {d : Array α} (h : w.ownsRow B e k (.slice (some ⟨g, 0, none⟩) n cap) n (d.toList.flatMap enc)) (hd : d.size = n) : HoldsK enc k w g 0 d := by
  intro j hj
  rw [size_flatK] at hj
  obtain ⟨cur, hb⟩ := rw_bk h g rfl
  refine ⟨?_, hb.frozen _⟩
  obtain ⟨h1, ⟨h2, _⟩ | ⟨g', cap', cur', hv, hB, hh, hc, hx, hs, ht⟩⟩ := h
  · cases h2
  · injection hv with hv hv2 hv3
    injection hv with hv
    injection hv with hv
    subst hv
    have hb' : Bk w g e cur' := hh
    rw [Nat.zero_add, hb'.cell, ← Array.getElem?_toList, id_eq, ← flatK_at hk d hj, ← ht, List.getElem?_take_of_lt (by rw [← hd]; exact hj)]
end
end Go.Proofs.YtgnlbmamolbcfaaDoor
