/- The stack under any interleaving of pushes, takes and reports: the plain law. -/
import Derived.Test.YtokdalilnckkoaaOnceP
namespace Go.Proofs.Ytokdalilnckkoaa
open Go.RowKit

structure Stk (m : Mem Int) (ops : List (Nat × OpS)) : Prop where
  okM : OkM m
  okO : ∀ p ∈ ops, OkO m p.2
  pc : ∀ p ∈ ops, 1 ≤ p.2.pc ∧ p.2.pc ≤ 7
  nd : m.cells.Nodup
  own : ops.filterMap pushF = m.cells
  ex : ∃ L, Chain m m.top L ∧ (L ++ ops.filterMap wonF).Perm (ops.filterMap finF)
  res : ∀ p ∈ ops, p.2.pc ≤ 3 ∨ p.2.pc = 7 → p.2.res = 0

theorem Stk.unf {m : Mem Int} {ops : List (Nat × OpS)} (h : Stk m ops) {i o c : Nat} {s : OpS} (hi : ops[i]? = some (o, s)) (hp : isPush s = true) (hf : s.fin = false) (ha : s.at_ = some c) : c ∉ ops.filterMap finF := by
  intro hc
  obtain ⟨q, hq, e⟩ := List.mem_filterMap.1 hc
  obtain ⟨j, hj, rfl⟩ := List.mem_iff_getElem.1 hq
  unfold finF at e
  split at e
  · rename_i hh
    have hj' : ops[j]? = some ops[j] := List.getElem?_eq_getElem hj
    have := fm_inj (f := pushF) (c := c) (by rw [h.own]; exact h.nd) hi hj' (by simp [pushF, hp, ha]) (by simp [pushF, hh.1, e])
    subst this
    rw [hi] at hj'
    simp only [Option.some.injEq] at hj'
    rw [← hj'] at hh
    simp [hf] at hh
  · cases e

/-- What a step leaves as it was. -/
theorem Stk.same {m m' : Mem Int} {ops : List (Nat × OpS)} (h : Stk m ops) {i o : Nat} {s s' : OpS} (hi : ops[i]? = some (o, s)) (hcells : m'.cells = m.cells) (hM : OkM m') (hO : OkO m' s') (hpc : 1 ≤ s'.pc ∧ s'.pc ≤ 7)
    (hpush : isPush s' = isPush s) (hat : isPush s = true → s'.at_ = s.at_) (hex : ∃ L, Chain m' m'.top L ∧ (L ++ (ops.set i (o, s')).filterMap wonF).Perm ((ops.set i (o, s')).filterMap finF))
    (hres : s'.pc ≤ 3 ∨ s'.pc = 7 → s'.res = 0) : Stk m' (ops.set i (o, s')) := by
  refine ⟨hM, fun p hp => ?_, fun p hp => ?_, by rw [hcells]; exact h.nd, ?_, hex, fun p hp => ?_⟩
  · rcases List.mem_or_eq_of_mem_set hp with hp | rfl
    · have := h.okO p hp
      exact ⟨by rw [hcells]; exact this.at_, this.has, this.zero, this.won⟩
    · exact hO
  · rcases List.mem_or_eq_of_mem_set hp with hp | rfl
    · exact h.pc p hp
    · exact hpc
  · rw [hcells, ← h.own]
    refine fm_same hi ?_
    simp only [pushF, hpush]
    split
    · rename_i e; exact hat e
    · rfl
  · rcases List.mem_or_eq_of_mem_set hp with hp | rfl
    · exact h.res p hp
    · exact hres

theorem stp_pc7 {m : Mem Int} {s : OpS} (h : 1 ≤ s.pc ∧ s.pc ≤ 7) : 1 ≤ (stp m s).2.1.pc ∧ (stp m s).2.1.pc ≤ 7 := by
  unfold stp
  split
  · exact h
  · split <;> first | (dsimp only; omega) | (split <;> dsimp only <;> omega) | (dsimp only; split <;> omega)

theorem Stk.step {m : Mem Int} {ops : List (Nat × OpS)} (h : Stk m ops) {i o : Nat} {s : OpS} (hi : ops[i]? = some (o, s)) : Stk (stp m s).1 (ops.set i (o, (stp m s).2.1)) := by
  have hmem : (o, s) ∈ ops := List.mem_of_getElem? hi
  have hok := h.okO _ hmem
  have hM := stp_okM h.okM hok
  have hO := stp_okO h.okM hok
  have hpc := stp_pc7 (m := m) (h.pc _ hmem)
  have hp0 := h.pc _ hmem
  have hr := h.res _ hmem
  obtain ⟨L, hL, hPerm⟩ := h.ex
  obtain ⟨pc, at_, fin, res⟩ := s
  dsimp only at hok hp0 hr
  have hz := hok.zero
  dsimp only at hz
  cases fin with
  | true =>
    have e : ops.set i (o, ⟨pc, at_, true, res⟩) = ops := set_back hi
    simpa [stp, e] using h
  | false =>
    have hz := hz rfl
    subst hz
    match pc with
    | 0 => omega
    | n + 8 => omega
    | 1 =>
      obtain ⟨c, rfl⟩ := hok.has (by simp)
      have e : stp m ⟨1, some c, false, 0⟩ = ({ m with pd := m.pd + 1 }, ⟨2, some c, false, 0⟩, false) := rfl
      rw [e] at hM hO hpc ⊢
      refine h.same hi rfl hM hO hpc rfl (fun _ => rfl) ⟨L, hL.keep (fun _ _ => rfl) (fun _ hc => hc), ?_⟩ (fun _ => rfl)
      rw [fm_same (f := wonF) hi (by simp [wonF]), fm_same (f := finF) hi (by simp [finF])]
      exact hPerm
    | 2 =>
      obtain ⟨c, rfl⟩ := hok.has (by simp)
      have e : stp m ⟨2, some c, false, 0⟩ = ({ m with below := upd m.below c m.top }, ⟨3, some c, false, 0⟩, false) := rfl
      rw [e] at hM hO hpc ⊢
      have hcL : c ∉ L := fun hc => h.unf hi rfl rfl rfl ((hPerm.mem_iff).1 (List.mem_append.2 (.inl hc)))
      refine h.same hi rfl hM hO hpc rfl (fun _ => rfl) ⟨L, hL.keep (fun d hd => upd_other _ _ (fun e => hcL (e ▸ hd))) (fun _ hc => hc), ?_⟩ (fun _ => rfl)
      rw [fm_same (f := wonF) hi (by simp [wonF]), fm_same (f := finF) hi (by simp [finF])]
      exact hPerm
    | 3 =>
      obtain ⟨c, rfl⟩ := hok.has (by simp)
      have hcm : c ∈ m.cells := hok.at_ c rfl
      by_cases ht : m.top = m.below c
      · have e : stp m ⟨3, some c, false, 0⟩ = ({ m with top := some c }, ⟨2, some c, true, 0⟩, true) := by simp [stp, ht]
        rw [e] at hM hO hpc ⊢
        refine h.same hi rfl hM hO hpc rfl (fun _ => rfl) ⟨c :: L, ⟨rfl, hcm, ?_⟩, ?_⟩ (fun _ => rfl)
        · show Chain _ (m.below c) L
          rw [← ht]
          exact hL.keep (fun _ _ => rfl) (fun _ hc => hc)
        · rw [fm_same (f := wonF) hi (by simp [wonF])]
          exact (List.Perm.cons c hPerm).trans (fm_new (f := finF) hi (by simp [finF]) (by simp [finF, isPush])).symm
      · have e : stp m ⟨3, some c, false, 0⟩ = (m, ⟨2, some c, false, 0⟩, false) := by simp [stp, ht]
        rw [e] at hM hO hpc ⊢
        refine h.same hi rfl hM hO hpc rfl (fun _ => rfl) ⟨L, hL, ?_⟩ (fun _ => rfl)
        rw [fm_same (f := wonF) hi (by simp [wonF]), fm_same (f := finF) hi (by simp [finF])]
        exact hPerm
    | 4 =>
      have e : stp m ⟨4, at_, false, 0⟩ = (m, ⟨if m.top = none then 6 else 5, m.top, false, 0⟩, false) := rfl
      rw [e] at hM hO hpc ⊢
      have hip : isPush ⟨if m.top = none then 6 else 5, m.top, false, 0⟩ = false := by
        unfold isPush
        split <;> rfl
      refine h.same hi rfl hM hO hpc hip (fun e => by simp [isPush] at e) ⟨L, hL, ?_⟩ (fun _ => rfl)
      rw [fm_same (f := wonF) hi (by simp [wonF]), fm_same (f := finF) hi (by simp [finF])]
      exact hPerm
    | 5 =>
      obtain ⟨c, rfl⟩ := hok.has (by simp)
      by_cases ht : m.top = some c
      · have e : stp m ⟨5, some c, false, 0⟩ = ({ m with top := m.below c }, ⟨4, some c, true, 1⟩, true) := by simp [stp, ht]
        rw [e] at hM hO hpc ⊢
        cases L with
        | nil => rw [show m.top = none from hL] at ht; cases ht
        | cons d L =>
          obtain ⟨hd, _, hr'⟩ := hL
          rw [ht] at hd
          injection hd with hd
          subst hd
          refine h.same hi rfl hM hO hpc rfl (fun _ => rfl) ⟨L, hr'.keep (fun _ _ => rfl) (fun _ hc => hc), ?_⟩ (fun e => by simp at e)
          rw [fm_same (f := finF) hi (by simp [finF, isPush])]
          refine List.Perm.trans ?_ hPerm
          refine (List.Perm.append_left L (fm_new (f := wonF) (c := c) hi (by simp [wonF]) (by simp [wonF]))).trans ?_
          exact List.perm_middle
      · have e : stp m ⟨5, some c, false, 0⟩ = (m, ⟨4, some c, false, 0⟩, false) := by simp [stp, ht]
        rw [e] at hM hO hpc ⊢
        refine h.same hi rfl hM hO hpc rfl (fun _ => rfl) ⟨L, hL, ?_⟩ (fun _ => rfl)
        rw [fm_same (f := wonF) hi (by simp [wonF]), fm_same (f := finF) hi (by simp [finF])]
        exact hPerm
    | 6 =>
      have e : stp m ⟨6, at_, false, 0⟩ = (m, ⟨6, at_, true, if m.pd = 0 then 3 else 2⟩, true) := rfl
      rw [e] at hM hO hpc ⊢
      have hr2 : 2 ≤ (if m.pd = 0 then (3 : Int) else 2) := by split <;> omega
      generalize (if m.pd = 0 then (3 : Int) else 2) = r at *
      refine h.same hi rfl hM hO hpc rfl (fun e => by simp [isPush] at e) ⟨L, hL, ?_⟩ (fun e => by simp at e)
      have hne : ¬ r = 1 := by omega
      rw [fm_same (f := wonF) hi (by simp [wonF, hne]), fm_same (f := finF) hi (by simp [finF, isPush])]
      exact hPerm
    | 7 =>
      have e : stp m ⟨7, at_, false, 0⟩ = ({ m with pd := m.pd + -1 }, ⟨7, at_, true, 0⟩, true) := rfl
      rw [e] at hM hO hpc ⊢
      refine h.same hi rfl hM hO hpc rfl (fun e => by simp [isPush] at e) ⟨L, hL.keep (fun _ _ => rfl) (fun _ hc => hc), ?_⟩ (fun _ => rfl)
      rw [fm_same (f := wonF) hi (by simp [wonF]), fm_same (f := finF) hi (by simp [finF, isPush])]
      exact hPerm

/-- An operation that is no push is begun. -/
theorem Stk.more {m : Mem Int} {ops : List (Nat × OpS)} (h : Stk m ops) (o : Nat) {s : OpS} (hs : s = opTake ∨ s = opDone) : Stk m (ops ++ [(o, s)]) := by
  obtain ⟨L, hL, hP⟩ := h.ex
  have key : OkO m s ∧ (1 ≤ s.pc ∧ s.pc ≤ 7) ∧ isPush s = false ∧ s.fin = false ∧ s.res = 0 := by
    rcases hs with rfl | rfl
    · exact ⟨⟨on_none _, fun h => (by simp [opTake] at h), fun _ => rfl, fun e => (by simp [opTake] at e)⟩, by simp [opTake], rfl, rfl, rfl⟩
    · exact ⟨⟨on_none _, fun h => (by simp [opDone] at h), fun _ => rfl, fun e => (by simp [opDone] at e)⟩, by simp [opDone], rfl, rfl, rfl⟩
  obtain ⟨k1, k2, k3, k4, k5⟩ := key
  refine ⟨h.okM, fun p hp => ?_, fun p hp => ?_, h.nd, ?_, ⟨L, hL, ?_⟩, fun p hp => ?_⟩
  · rcases List.mem_append.1 hp with hp | hp
    · exact h.okO p hp
    · rw [List.mem_singleton] at hp
      subst hp
      exact k1
  · rcases List.mem_append.1 hp with hp | hp
    · exact h.pc p hp
    · rw [List.mem_singleton] at hp
      subst hp
      exact k2
  · simpa [pushF, k3] using h.own
  · simpa [wonF, finF, k3, k4] using hP
  · rcases List.mem_append.1 hp with hp | hp
    · exact h.res p hp
    · rw [List.mem_singleton] at hp
      subst hp
      exact fun _ => k5

theorem Stk.push {m : Mem Int} {ops : List (Nat × OpS)} (h : Stk m ops) (o c : Nat) (x : Int) (hc : c ∉ m.cells) : Stk (addCell m c x) (ops ++ [(o, opPush c)]) := by
  obtain ⟨L, hL, hP⟩ := h.ex
  have hLc : ∀ d ∈ L, d ∈ m.cells := by
    intro d hd
    have h1 := (hP.mem_iff).1 (List.mem_append.2 (.inl hd))
    obtain ⟨q, hq, e⟩ := List.mem_filterMap.1 h1
    unfold finF at e
    split at e
    · exact (h.okO q hq).at_ d e
    · cases e
  have hne : ∀ d ∈ m.cells, d ≠ c := fun d hd e => hc (e ▸ hd)
  refine ⟨⟨h.okM.top.more c, fun d hd => ?_⟩, fun p hp => ?_, fun p hp => ?_, ?_, ?_, ⟨L, hL.keep (fun d hd => upd_other _ _ (hne d (hLc d hd))) (fun d hd => List.mem_append.2 (.inl hd)), ?_⟩, fun p hp => ?_⟩
  · simp only [addCell]
    by_cases e : d = c
    · subst e
      rw [upd_same]
      exact on_none _
    · rw [upd_other _ _ e]
      rcases List.mem_append.1 hd with hd | hd
      · exact (h.okM.below d hd).more c
      · rw [List.mem_singleton] at hd
        exact absurd hd e
  · rcases List.mem_append.1 hp with hp | hp
    · have := h.okO p hp
      exact ⟨this.at_.more c, this.has, this.zero, this.won⟩
    · rw [List.mem_singleton] at hp
      subst hp
      exact ⟨on_some (by simp [addCell]), fun _ => ⟨_, rfl⟩, fun _ => rfl, fun _ => ⟨_, rfl⟩⟩
  · rcases List.mem_append.1 hp with hp | hp
    · exact h.pc p hp
    · rw [List.mem_singleton] at hp
      subst hp
      simp [opPush]
  · simp only [addCell]
    rw [List.nodup_append]
    refine ⟨h.nd, by simp, fun a ha b hb => ?_⟩
    rw [List.mem_singleton] at hb
    subst hb
    exact hne a ha
  · simp [pushF, isPush, opPush, addCell, h.own]
  · simpa [wonF, finF, isPush, opPush] using hP
  · rcases List.mem_append.1 hp with hp | hp
    · exact h.res p hp
    · rw [List.mem_singleton] at hp
      subst hp
      exact fun _ => rfl

theorem stk0 : Stk mem0I [] := ⟨⟨on_none _, fun c hc => by cases hc⟩, fun p hp => (by cases hp), fun p hp => (by cases hp), List.nodup_nil, rfl, ⟨[], rfl, List.Perm.refl _⟩, fun p hp => (by cases hp)⟩

end Go.Proofs.Ytokdalilnckkoaa
