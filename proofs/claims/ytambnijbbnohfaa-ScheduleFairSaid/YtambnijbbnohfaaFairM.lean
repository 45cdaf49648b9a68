/- ScheduleFair: 'since' in memory. -/
import Derived.Test.YtambnijbbnohfaaFairP
import Derived.Test.YtambnijbbnohfaaEveryQ
import Derived.Test.YtambnijbbnohfaaLawRun
namespace Go.Proofs.Ytambnijbbnohfaa
open Go.RowKit

def sv (n : Nat) : Option (Nat × List Bool) → Value
  | none => .slice none 0 0
  | some s => .slice (some ⟨s.1, 0, none⟩) n n
def bools (f : List Bool) : Array Value := (f.map Value.bool).toArray
/-- The lists alone. -/
def lists (S : List (Option (Nat × List Bool))) : List (Option (List Bool)) := S.map (fun s => s.map (fun p => p.2))

structure SM (B gs n : Nat) (S : List (Option (Nat × List Bool))) (w : World) : Prop where
  row : Bk w gs 47 (S.map (sv n)).toArray
  len : S.length = n
  hgs : B ≤ gs
  cell : ∀ (k : Nat) (s : Nat × List Bool), S[k]? = some (some s) → Bk w s.1 4 (bools s.2) ∧ s.2.length = n ∧ B ≤ s.1
  apart : ∀ (k l : Nat) (s t : Nat × List Bool), S[k]? = some (some s) → S[l]? = some (some t) → k ≠ l → s.1 ≠ t.1

theorem set_same {α : Type} {L : List α} {k : Nat} {a : α} (h : L[k]? = some a) : L.set k a = L := by
  refine List.ext_getElem? fun i => ?_
  rw [List.getElem?_set]
  by_cases e : k = i
  · subst e
    rw [if_pos rfl, if_pos (List.getElem?_eq_some_iff.mp h).1, h]
  · rw [if_neg e]

section
variable {B gs n : Nat} {S : List (Option (Nat × List Bool))} {w w' : World}
theorem SM.keep (h : SM B gs n S w) (hk : ∀ (b : Nat) (t : TypeId) (cs : Array Value), Bk w b t cs → t = 47 ∨ t = 4 → w'.heap[b]? = w.heap[b]?) : SM B gs n S w' :=
  ⟨h.row.keep (hk _ _ _ h.row (.inl rfl)), h.len, h.hgs, fun k s hs => ⟨(h.cell k s hs).1.keep (hk _ _ _ (h.cell k s hs).1 (.inr rfl)), (h.cell k s hs).2⟩, h.apart⟩
theorem SM.at (h : SM B gs n S w) {k : Nat} {s : Option (Nat × List Bool)} (hs : S[k]? = some s) : w.cell? ⟨gs, k, none⟩ = some (sv n s) := by
  rw [h.row.cell, List.getElem?_toArray, List.getElem?_map, hs]
  rfl
theorem SM.bit (h : SM B gs n S w) {k o : Nat} {s : Nat × List Bool} (hs : S[k]? = some (some s)) (ho : o < n) : w.cell? ⟨s.1, o, none⟩ = some (.bool (s.2.getD o false)) := by
  obtain ⟨h1, h2, _⟩ := h.cell k s hs
  rw [h1.cell, bools, List.getElem?_toArray, List.getElem?_map, List.getD_eq_getElem?_getD, List.getElem?_eq_getElem (by omega)]
  rfl
theorem bools_set (f : List Bool) (q : Nat) (b : Bool) : (bools f).setIfInBounds q (.bool b) = bools (f.set q b) := by
  unfold bools
  rw [List.setIfInBounds_toArray, List.map_set]
theorem SM.mark (h : SM B gs n S w) {k q : Nat} {s : Nat × List Bool} (hs : S[k]? = some (some s)) : SM B gs n (S.set k (some (s.1, s.2.set q true))) (w.setCell ⟨s.1, q, none⟩ (.bool true)) := by
  obtain ⟨h1, h2, h3⟩ := h.cell k s hs
  have hk : k < S.length := (List.getElem?_eq_some_iff.mp hs).1
  refine ⟨?_, by rw [List.length_set]; exact h.len, h.hgs, fun l t ht => ?_, fun i j a b ha hb hne => ?_⟩
  · have e : (S.set k (some (s.1, s.2.set q true))).map (sv n) = S.map (sv n) := by
      rw [List.map_set]
      have : (S.map (sv n))[k]? = some (sv n (some (s.1, s.2.set q true))) := by rw [List.getElem?_map, hs]; rfl
      exact set_same this
    rw [e]
    exact h.row.other (h.row.ne h1 (by decide)) _
  · by_cases hl : k = l
    · subst hl
      rw [List.getElem?_set_self hk] at ht
      simp only [Option.some.injEq] at ht
      subst ht
      exact ⟨by rw [← bools_set]; exact h1.put q _, by simp [h2], h3⟩
    · rw [List.getElem?_set_ne hl] at ht
      obtain ⟨g1, g2, g3⟩ := h.cell l t ht
      exact ⟨g1.other (h.apart l k t s ht hs (fun e => hl e.symm)) _, g2, g3⟩
  · have get : ∀ (i : Nat) (a : Nat × List Bool), (S.set k (some (s.1, s.2.set q true)))[i]? = some (some a) → ∃ a', S[i]? = some (some a') ∧ a'.1 = a.1 := fun i a ha => by
      by_cases hi : k = i
      · subst hi
        rw [List.getElem?_set_self hk] at ha
        simp only [Option.some.injEq] at ha
        exact ⟨s, hs, by rw [← ha]⟩
      · rw [List.getElem?_set_ne hi] at ha
        exact ⟨a, ha, rfl⟩
    obtain ⟨a', ha', ea⟩ := get i a ha
    obtain ⟨b', hb', eb⟩ := get j b hb
    rw [← ea, ← eb]
    exact h.apart i j a' b' ha' hb' hne
theorem SM.fresh (h : SM B gs n S w) {q : Nat} (hq : q < n) (hB : B ≤ w.heap.size) :
    SM B gs n (S.set q (some (w.heap.size, List.replicate n false))) ((w.alloc (.cells (bools (List.replicate n false)) 4)).setCell ⟨gs, q, none⟩ (.slice (some ⟨w.heap.size, 0, none⟩) n n)) := by
  have hql : q < S.length := by rw [h.len]; exact hq
  have hnew := Bk.made w 4 (bools (List.replicate n false))
  have hrow := h.row.alloc (.cells (bools (List.replicate n false)) 4)
  have hlt := h.row.lt
  refine ⟨?_, by rw [List.length_set]; exact h.len, h.hgs, fun l t ht => ?_, fun i j a b ha hb hne => ?_⟩
  · have := hrow.put q (.slice (some ⟨w.heap.size, 0, none⟩) n n)
    rw [List.setIfInBounds_toArray] at this
    rw [List.map_set]
    exact this
  · by_cases hl : q = l
    · subst hl
      rw [List.getElem?_set_self hql] at ht
      simp only [Option.some.injEq] at ht
      subst ht
      exact ⟨hnew.other (by simp; omega) _, by simp, hB⟩
    · rw [List.getElem?_set_ne hl] at ht
      obtain ⟨g1, g2, g3⟩ := h.cell l t ht
      exact ⟨(g1.alloc _).other (fun e => g1.ne h.row (by decide) e) _, g2, g3⟩
  · by_cases hi : q = i
    · subst hi
      rw [List.getElem?_set_self hql] at ha
      simp only [Option.some.injEq] at ha
      rw [List.getElem?_set_ne hne] at hb
      have := (h.cell j b hb).1.lt
      rw [← ha]
      simp only
      omega
    · rw [List.getElem?_set_ne hi] at ha
      by_cases hj : q = j
      · subst hj
        rw [List.getElem?_set_self hql] at hb
        simp only [Option.some.injEq] at hb
        have := (h.cell i a ha).1.lt
        rw [← hb]
        simp only
        omega
      · rw [List.getElem?_set_ne hj] at hb
        exact h.apart i j a b ha hb hne
end

/-- The first k lists are marked at q. -/
def markTo (S : List (Option (Nat × List Bool))) (q k : Nat) : List (Option (Nat × List Bool)) := (S.take k).map (fun s => s.map (fun p => (p.1, p.2.set q true))) ++ S.drop k
theorem markTo_zero (S : List (Option (Nat × List Bool))) (q : Nat) : markTo S q 0 = S := by simp [markTo]
theorem markTo_get (S : List (Option (Nat × List Bool))) (q k : Nat) (hk : k < S.length) : (markTo S q k)[k]? = S[k]? := by
  unfold markTo
  rw [List.getElem?_append_right (by simp; omega), List.length_map, List.length_take, show k - min k S.length = 0 from by omega, List.getElem?_drop]
  rfl
theorem markTo_succ (S : List (Option (Nat × List Bool))) (q k : Nat) (hk : k < S.length) : markTo S q (k + 1) = (markTo S q k).set k (S[k].map (fun p => (p.1, p.2.set q true))) := by
  unfold markTo
  rw [List.set_append_right _ _ (by simp; omega), List.length_map, List.length_take, show k - min k S.length = 0 from by omega, List.drop_eq_getElem_cons hk, List.set_cons_zero, List.take_add_one, List.getElem?_eq_getElem hk, List.map_append]
  simp
theorem lists_markTo (S : List (Option (Nat × List Bool))) (q : Nat) : lists (markTo S q S.length) = marked (lists S) q := by
  unfold markTo lists marked
  rw [List.take_length, List.drop_length, List.append_nil, List.map_map, List.map_map]
  refine List.map_congr_left fun s _ => ?_
  cases s <;> rfl
theorem lists_get {S : List (Option (Nat × List Bool))} {k : Nat} {f : List Bool} (h : (lists S)[k]? = some (some f)) : ∃ b, S[k]? = some (some (b, f)) := by
  unfold lists at h
  rw [List.getElem?_map] at h
  cases hs : S[k]? with
  | none => rw [hs] at h; simp at h
  | some s =>
    rw [hs] at h
    cases s with
    | none => simp at h
    | some p => simp only [Option.map_some, Option.some.injEq] at h; exact ⟨p.1, by rw [← h]⟩

theorem made_nil (n : Nat) : madeCells #[Value.slice none 0 0] n = ((List.replicate n (none : Option (Nat × List Bool))).map (sv n)).toArray := by
  apply Array.toList_inj.mp
  rw [toList_madeCells_one, List.map_replicate]
  rfl
theorem made_false (n : Nat) : madeCells #[Value.bool false] n = bools (List.replicate n false) := by
  apply Array.toList_inj.mp
  rw [toList_madeCells_one, bools, List.map_replicate]

theorem Try.info47' : (Try.prog.info? 47).map (fun i => (i.zero, i.size, i.bytes)) = some (some (.slice none 0 0), 1, 24) := by kernel_rfl
theorem Try.info4' : (Try.prog.info? 4).map (fun i => (i.zero, i.size, i.bytes)) = some (some (.bool false), 1, 1) := by kernel_rfl
theorem make46 (n : Nat) (hn : n ≤ 1000) (w : World) : (Instr.makeSlice 46 (.int .i64 n) (.int .i64 n)).run Try.prog w = .ok (.slice (some ⟨w.heap.size, 0, none⟩) n n) (w.alloc (.cells ((List.replicate n (none : Option (Nat × List Bool))).map (sv n)).toArray 47)) := by
  obtain ⟨i0, hi, hz0, hz1, hz2⟩ := info_parts Try.info47'
  have := run_make (P := Try.prog) w 46 47 i0 _ Try.underlying46 hi hz0 .i64 .i64 n n (by omega) (Int.le_refl _) (by rw [hz2]; omega) (by omega)
  rw [hz1, Nat.mul_one, Int.toNat_natCast] at this
  rw [← made_nil]
  exact this
theorem make47 (n : Nat) (hn : n ≤ 1000) (w : World) : (Instr.makeSlice 47 (.int .i64 n) (.int .i64 n)).run Try.prog w = .ok (.slice (some ⟨w.heap.size, 0, none⟩) n n) (w.alloc (.cells (bools (List.replicate n false)) 4)) := by
  obtain ⟨i0, hi, hz0, hz1, hz2⟩ := info_parts Try.info4'
  have := run_make (P := Try.prog) w 47 4 i0 _ Try.underlying47 hi hz0 .i64 .i64 n n (by omega) (Int.le_refl _) (by rw [hz2]; omega) (by omega)
  rw [hz1, Nat.mul_one, Int.toNat_natCast] at this
  rw [← made_false]
  exact this

end Go.Proofs.Ytambnijbbnohfaa
