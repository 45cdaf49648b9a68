/- The closure of Order that performs a step. -/
import Derived.Test.YtambnijbbnohfaaClone
namespace Go.Proofs.Ytambnijbbnohfaa
open Go.RowKit

section
variable {w : World} {base : Nat} {v : Value} {xs : List Int}
theorem OwnI.head (h : OwnI w base v xs) (h0 : 0 < xs.length) : ∃ g c cur, v = .slice (some ⟨g, 0, none⟩) xs.length c ∧ base ≤ g ∧ Bk w g 3 cur ∧ xs.length ≤ c ∧ c ≤ maxLen ∧ cur.size = c ∧ cur.toList.take xs.length = xs.map (Value.int .i64) := by
  obtain ⟨_, hn | ⟨g, c, cur, hv, hg, hrow, hc, hcM, hcs, hcur⟩⟩ := h
  · omega
  · exact ⟨g, c, cur, hv, hg, hrow, hc, hcM, by simpa using hcs, by simpa using hcur⟩
theorem own_mk {g c : Nat} {cur : Array Value} (hg : base ≤ g) (hrow : Bk w g 3 cur) (hc : xs.length ≤ c) (hcM : c ≤ maxLen) (hcs : cur.size = c) (hcur : cur.toList.take xs.length = xs.map (Value.int .i64)) : OwnI w base (.slice (some ⟨g, 0, none⟩) xs.length c) xs :=
  ⟨by simp, .inr ⟨g, c, cur, rfl, hg, hrow, hc, hcM, by simpa using hcs, by simpa using hcur⟩⟩
theorem row_cell {g k : Nat} {cur : Array Value} (hrow : Bk w g 3 cur) (hcur : cur.toList.take xs.length = xs.map (Value.int .i64)) (hk : k < xs.length) : w.cell? ⟨g, k, none⟩ = some (.int .i64 (xs.getD k 0)) := by
  rw [hrow.cell, ← Array.getElem?_toList, ← List.getElem?_take_of_lt hk, hcur, List.getElem?_map, List.getD_eq_getElem?_getD, List.getElem?_eq_getElem hk]
  rfl
theorem row_set {g c k : Nat} {cur : Array Value} {x : Int} (hg : base ≤ g) (hrow : Bk w g 3 cur) (hc : xs.length ≤ c) (hcM : c ≤ maxLen) (hcs : cur.size = c) (hcur : cur.toList.take xs.length = xs.map (Value.int .i64)) (_hk : k < xs.length) :
    OwnI (w.setCell ⟨g, k, none⟩ (.int .i64 x)) base (.slice (some ⟨g, 0, none⟩) xs.length c) (xs.set k x) := by
  have h := own_mk (xs := xs.set k x) hg (hrow.put k (.int .i64 x)) (by simpa using hc) hcM (by simpa using hcs) (by
    rw [Array.toList_setIfInBounds, List.length_set, List.take_set, hcur, List.map_set])
  simpa using h
theorem OwnI.ne (h : OwnI w base v xs) {g : Nat} {t : TypeId} {cs : Array Value} (hb : Bk w g t cs) (ht : t ≠ 3) : v.ownBlock ≠ some g := by
  rcases h.2 with ⟨rfl, _⟩ | ⟨g', cap, cur, rfl, _, hh, _⟩
  · simp [Value.ownBlock]
  · intro he
    have : g' = g := by simpa [Value.ownBlock] using he
    subst this
    exact Bk.ne (t := 3) hh hb (fun e => ht e.symm) rfl
end

/-- The own block of a value is none of those. -/
def Off (v : Value) (X : List Nat) : Prop := ∀ b, v.ownBlock = some b → b ∉ X

/-- The step of Order: the list of steps, and what is left of the counts. -/
def actO (s : List Int × List Int) (i : Int) : Bool × (List Int × List Int) :=
  (s.2.getD i.toNat 0 - 1 == 0, (s.1 ++ [i], s.2.set i.toNat (s.2.getD i.toNat 0 - 1)))

structure InvO (B bo bl gt g : Nat) (A : Option Addr) (ss : List Int) (s : List Int × List Int) (w : World) : Prop where
  size : B ≤ w.heap.size
  see : Sees w B A (ss.map (Value.int .u8))
  hbo : B ≤ bo ∧ bo ≠ gt ∧ bo ≠ g ∧ bo < w.heap.size
  hbl : B ≤ bl ∧ bl ≠ gt ∧ bl ≠ g ∧ bl < w.heap.size ∧ bl ≠ bo
  new : B ≤ gt ∧ B ≤ g ∧ gt < w.heap.size ∧ g < w.heap.size
  ex : ∃ vo vl, Bk w bo 22 #[vo] ∧ OwnI w B vo s.1 ∧ Bk w bl 22 #[vl] ∧ OwnI w B vl s.2 ∧ Off vo [gt, g] ∧ Off vl [gt, g] ∧ (∀ b, vo.ownBlock = some b → vl.ownBlock ≠ some b)

structure StepO (B bo bl gt g : Nat) (A : Option Addr) (ss : List Int) (r : Bool × (List Int × List Int)) (w : World) (e : Ending) (w' : World) : Prop where
  ret : e = .returned (.bool r.1)
  inv : InvO B bo bl gt g A ss r.2 w'
  below : Below B w w'
  gt : w'.heap[gt]? = w.heap[gt]?
  g : w'.heap[g]? = w.heap[g]?

set_option maxHeartbeats 400000 in
theorem stepO_any (B bo bl gt g : Nat) (A : Option Addr) (ss out left : List Int) (i : Int) (w : World) (h : InvO B bo bl gt g A ss (out, left) w) (hi0 : 0 ≤ i) (hi : i.toNat < left.length) (hp : 0 < left.getD i.toNat 0) (hpM : left.getD i.toNat 0 ≤ 1000000) (ho : out.length ≤ 1000000) :
    Calls Try.prog 25 #[.int .i64 i, .pointer (some ⟨bo, 0, none⟩), .pointer (some ⟨bl, 0, none⟩)] w (StepO B bo bl gt g A ss (actO (out, left) i) w) := by
  obtain ⟨hB, hsee, hbo, hbl, hnew, vo, vl, h1, h2, h3, h4, h5, h6, h7⟩ := h
  obtain ⟨k, rfl⟩ := Int.eq_ofNat_of_zero_le hi0
  rw [Int.toNat_natCast] at *
  have h2 : OwnI w B vo out := h2
  have h4 : OwnI w B vl left := h4
  obtain ⟨gl, c, cur, rfl, hgl, hrow, hc, hcM, hcs, hcur⟩ := h4.head (by omega)
  have HX := Lib.hid (row_cell hrow hcur hi)
  obtain ⟨A', c', rfl, hc', _⟩ := h2.form
  have ho1 : w.cell? ⟨bo, 0, none⟩ = some (.slice A' out.length c') := by rw [h1.cell]; rfl
  have HCS := Lib.hid hcs; clear hcs
  have HCU := Lib.hid hcur; clear hcur
  have H7 := Lib.hid h7; clear h7
  unfold maxLen at hcM
  obtain ⟨x, hxe⟩ : ∃ x, left.getD k 0 = x := ⟨_, rfl⟩
  simp only [actO, Int.toNat_natCast]
  rw [hxe] at hp hpM HX ⊢
  clear hxe
  go_enter Try.func25, Try.ntmps25
  go_wp2_with (at_builtin; refine wpList_app1 Try.ints rfl _ _ rfl B _ (out.map (Value.int .i64)) (.int .i64 k) rfl rfl (by rw [List.length_map]; exact h2) rfl ?c1 ?c2 hB ?_)
  case c1 => unfold maxLen; omega
  case c2 => omega
  intro v' w1 hown' hkeep hob hbel
  have hg1 := h1.keep (hkeep bo hbo.2.2.2 (h2.ne h1 (by decide)))
  have hl1 := h3.keep (hkeep bl hbl.2.2.2.1 (h2.ne h3 (by decide)))
  have hrow1 := hrow.keep (hkeep gl hrow.lt (fun e => H7.out gl e rfl))
  have hown1 : OwnI w1 B v' (out ++ [(k : Int)]) := by simpa [OwnI] using hown'
  have hbelow := hbel B hB (fun b e => (h2.lt b e).1)
  have hsz : w.heap.size ≤ w1.heap.size := hbelow.size
  have HKEEP := Lib.hid hkeep
  clear hkeep hown' hbel ho1
  obtain ⟨A2, c2, rfl, hc2, _⟩ := hown1.form
  have hgb : ¬ gl = bo := fun e => (h4.ne h1 (by decide)) (by rw [← e]; rfl)
  have hgl' : ¬ gl = bl := fun e => (h4.ne h3 (by decide)) (by rw [← e]; rfl)
  have hbb : ¬ bl = bo := hbl.2.2.2.2
  have hc3 : w1.cell? ⟨bo, 0, none⟩ = some (.slice A' out.length c') := by rw [hg1.cell]; rfl
  have hc4 : w1.cell? ⟨bl, 0, none⟩ = some (.slice (some ⟨gl, 0, none⟩) left.length c) := by rw [hl1.cell]; rfl
  have hc5 : w1.cell? ⟨gl, k, none⟩ = some (.int .i64 x) := (World.cell?_of_block (w := w) (hrow1.trans hrow.symm)).trans HX.out
  have hf3 : w1.frozen? ⟨bo, 0, none⟩ = false := hg1.frozen 0
  have hf5 : w1.frozen? ⟨gl, k, none⟩ = false := hrow1.frozen k
  go_wp2
  go_ret
  have e3 : (out ++ [(k : Int)]).length = out.length + 1 := by simp
  have hW : OwnI ((w1.setCell ⟨bo, 0, none⟩ (.slice A2 (out.length + 1) c2)).setCell ⟨gl, k, none⟩ (.int .i64 (x - 1))) B (.slice (some ⟨gl, 0, none⟩) left.length c) (left.set k (x - 1)) :=
    row_set hgl (hrow1.other hgb _) hc hcM HCS.out HCU.out hi
  rw [e3] at hown1 hob
  have hA2 : ∀ b, (Value.slice A2 (out.length + 1) c2).ownBlock = some b → b ≠ gl ∧ b ≠ bo ∧ b ∉ [gt, g] := fun b e => by
    have hnb : b ≠ bo := fun e' => (hown1.ne hg1 (by decide)) (by rw [e, e'])
    rcases hob with hob | hob
    · rw [hob] at e
      exact ⟨fun e' => H7.out b e (by rw [e']; rfl), hnb, h5 b e⟩
    · have h8 := hob b e
      have := hrow.lt
      refine ⟨by omega, hnb, ?_⟩
      simp
      omega
  have hkeep2 : ∀ b, b ≠ bo → b ≠ gl → ((w1.setCell ⟨bo, 0, none⟩ (.slice A2 (out.length + 1) c2)).setCell ⟨gl, k, none⟩ (.int .i64 (x - 1))).heap[b]? = w1.heap[b]? := fun b h h' => (Below.heap_setCell _ _ _ _ h').trans (Below.heap_setCell _ _ _ _ h)
  have hbel2 : Below B w ((w1.setCell ⟨bo, 0, none⟩ (.slice A2 (out.length + 1) c2)).setCell ⟨gl, k, none⟩ (.int .i64 (x - 1))) := (hbelow.setCell hbo.1 _).setCell hgl _
  have hg6 : gl ∉ [gt, g] := h6 gl rfl
  simp at hg6
  refine ⟨rfl, ⟨Nat.le_trans hB hbel2.size, hsee.below hbel2, ⟨hbo.1, hbo.2.1, hbo.2.2.1, Nat.lt_of_lt_of_le hbo.2.2.2 hbel2.size⟩, ⟨hbl.1, hbl.2.1, hbl.2.2.1, Nat.lt_of_lt_of_le hbl.2.2.2.1 hbel2.size, hbb⟩,
    ⟨hnew.1, hnew.2.1, Nat.lt_of_lt_of_le hnew.2.2.1 hbel2.size, Nat.lt_of_lt_of_le hnew.2.2.2 hbel2.size⟩, _, _, (hg1.put 0 _).other (fun e => hgb e.symm) _, ?_, (hl1.other (fun e => hbb e) _).other (fun e => hgl' e.symm) _, hW,
    fun b e => (hA2 b e).2.2, h6, fun b e e' => (hA2 b e).1 (by injection e' with e'; exact e'.symm)⟩, hbel2, ?_, ?_⟩
  · exact hown1.keep fun b e => hkeep2 b (hA2 b e).2.1 (hA2 b e).1
  · exact (hkeep2 gt (fun e => hbo.2.1 e.symm) (fun e => hg6.1 e.symm)).trans (HKEEP.out gt hnew.2.2.1 (fun e => h5 gt e (by simp)))
  · exact (hkeep2 g (fun e => hbo.2.2.1 e.symm) (fun e => hg6.2 e.symm)).trans (HKEEP.out g hnew.2.2.2 (fun e => h5 g e (by simp)))

end Go.Proofs.Ytambnijbbnohfaa
