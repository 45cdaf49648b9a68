/- The functions that ScheduleJoin joins; slices.Clone of workers; Join. -/
import Derived.Test.YtambnijbbnohfaaNil
namespace Go.Proofs.Ytambnijbbnohfaa
open Go.RowKit

/-- A function among those that are joined: its variables lie in the blocks kb (its steps), ib (its number), nb (its count); the log's variable in bg. -/
structure FPost (kb bg N : Nat) (k i : Int) (log : List Int) (w w' : World) : Prop where
  k : Bk w' kb 3 #[.int .i64 (k + 1)]
  log : ∃ v, Bk w' bg 22 #[v] ∧ OwnI w' N v (log ++ [i])
  keep : ∀ b, b < N → b ≠ kb → b ≠ bg → w'.heap[b]? = w.heap[b]?
  size : w.heap.size ≤ w'.heap.size
  os : w'.os = w.os
  tape : w'.tape = w.tape
  output : w'.output = w.output

set_option maxHeartbeats 400000 in
theorem fn_any (kb bg ib nb N : Nat) (k i n : Int) (log : List Int) (vlog : Value) (w : World) (h1 : Bk w kb 3 #[.int .i64 k]) (h2 : Bk w bg 22 #[vlog]) (h3 : Bk w ib 3 #[.int .i64 i]) (h4 : Bk w nb 3 #[.int .i64 n]) (h5 : OwnI w N vlog log)
    (hN : N ≤ w.heap.size) (hk : kb < N) (hg : bg < N) (hi : ib < N) (hn : nb < N) (hki : ¬ ib = kb) (hkn : ¬ nb = kb) (hl : log.length ≤ 1000000) (hk0 : 0 ≤ k) (hk1 : k ≤ 1000000) :
    Calls Try.prog 14 #[.pointer (some ⟨kb, 0, none⟩), .pointer (some ⟨bg, 0, none⟩), .pointer (some ⟨ib, 0, none⟩), .pointer (some ⟨nb, 0, none⟩)] w fun e w' => e = .returned (.bool (decide (n ≤ k + 1))) ∧ FPost kb bg N k i log w w' := by
  obtain ⟨A', c', rfl, hc', _⟩ := h5.form
  have c1 : w.cell? ⟨kb, 0, none⟩ = some (.int .i64 k) := by rw [h1.cell]; rfl
  have c2 : w.cell? ⟨bg, 0, none⟩ = some (.slice A' log.length c') := by rw [h2.cell]; rfl
  have c3 : w.cell? ⟨ib, 0, none⟩ = some (.int .i64 i) := by rw [h3.cell]; rfl
  have c4 : w.cell? ⟨nb, 0, none⟩ = some (.int .i64 n) := by rw [h4.cell]; rfl
  have f1 := h1.frozen 0
  have hkb : ¬ bg = kb := h2.ne h1 (by decide)
  have hkb' : ¬ kb = bg := fun e => hkb e.symm
  have hib : ¬ ib = bg := h3.ne h2 (by decide)
  have hnb : ¬ nb = bg := h4.ne h2 (by decide)
  have l1 := h1.lt
  have HO : Hid ((w.setCell ⟨kb, 0, none⟩ (.int .i64 (k + 1))).ownsRow N 3 1 (.slice A' log.length c') (log.map (Value.int .i64)).length (log.map (Value.int .i64))) := by
    rw [List.length_map]
    exact h5.keep fun b e => Below.heap_setCell _ _ _ _ (by have := (h5.lt b e).1; intro e'; simp at e'; omega)
  have hsz : (w.setCell ⟨kb, 0, none⟩ (.int .i64 (k + 1))).heap.size = w.heap.size := by simp [World.setCell]
  have HSZ := Lib.hid hsz
  clear hsz
  go_enter Try.func14, Try.ntmps14
  go_wp2_with (at_builtin; refine wpList_app1at (w := w.setCell ⟨kb, 0, none⟩ (.int .i64 (k + 1))) Try.ints rfl _ _ rfl N (.slice A' log.length c') (log.map (Value.int .i64)) (.int .i64 i) w.heap.size HSZ.out rfl rfl HO.out rfl (by rw [List.length_map]; unfold maxLen; omega) (by rw [List.length_map]; omega) (by rw [HSZ.out]; exact hN) ?_)
  intro v' w1 hown' hkeep hob hbel
  have hkeep' : ∀ b, b < w.heap.size → (Value.slice A' log.length c').ownBlock ≠ some b → b ≠ kb → w1.heap[b]? = w.heap[b]? := fun b hb hne hbk => (hkeep b hb hne).trans (Below.heap_setCell _ _ _ _ hbk)
  have hob1 : ∀ b, (Value.slice A' log.length c').ownBlock = some b → N ≤ b := fun b e => (h5.lt b e).1
  have hg1 := h2.keep (hkeep' bg h2.lt (fun e => by have := hob1 _ e; omega) hkb)
  have hk2 : Bk w1 kb 3 #[.int .i64 (k + 1)] := ((h1.put 0 _).keep (hkeep kb h1.lt (fun e => by have := hob1 _ e; omega)))
  have hi2 := h3.keep (hkeep' ib h3.lt (fun e => by have := hob1 _ e; omega) hki)
  have hn2 := h4.keep (hkeep' nb h4.lt (fun e => by have := hob1 _ e; omega) hkn)
  have hown1 : OwnI w1 N v' (log ++ [i]) := own_app (xs := log) (ys := [i]) (by simpa using hown')
  have hbw := hbel 0 (Nat.zero_le _) (fun b _ => Nat.zero_le _)
  have HK := Lib.hid hkeep'
  clear hkeep hob hbel hown' hkeep' hob1
  obtain ⟨A2, c2', rfl, hc2, _⟩ := hown1.form
  have d1 : w1.cell? ⟨bg, 0, none⟩ = some (.slice A' log.length c') := by rw [hg1.cell]; rfl
  have d2 : w1.frozen? ⟨bg, 0, none⟩ = false := hg1.frozen 0
  have d3 : w1.cell? ⟨kb, 0, none⟩ = some (.int .i64 (k + 1)) := by rw [hk2.cell]; rfl
  have d4 : w1.cell? ⟨nb, 0, none⟩ = some (.int .i64 n) := by rw [hn2.cell]; rfl
  clear c1 c2 c3 c4
  go_wp2
  all_goals go_ret
  have e3 : (log ++ [i]).length = log.length + 1 := by simp
  rw [e3] at hown1
  have hob2 : ∀ b, (Value.slice A2 (log.length + 1) c2').ownBlock = some b → N ≤ b := fun b e => (hown1.lt b e).1
  refine ⟨rfl, hk2.other hkb' _, ⟨_, hg1.put 0 _, hown1.keep fun b e => Below.heap_setCell _ _ _ _ (by have := hob2 b e; intro e'; simp at e'; omega)⟩, fun b hb h6 h7 => (Below.heap_setCell _ _ _ _ h7).trans (HK.out b (by omega) (fun e => by have := (h5.lt b e).1; omega) h6), ?_, hbw.os, hbw.tape, hbw.output⟩
  have := hbw.size
  simp [World.setCell] at this ⊢
  exact this

end Go.Proofs.Ytambnijbbnohfaa
