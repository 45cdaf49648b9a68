/- Every item is taken at most once: the plain law. -/
import Derived.Test.YtokdalilnckkoaaEnv
namespace Go.Proofs.Ytokdalilnckkoaa
open Go.RowKit

section
variable {β : Type} {f : β → Option Nat}
theorem fm_same : ∀ {l : List β} {i : Nat} {p q : β}, l[i]? = some p → f q = f p → (l.set i q).filterMap f = l.filterMap f
  | [], i, p, q, hi, _ => by simp at hi
  | a :: l, 0, p, q, hi, h => by
    simp at hi
    subst hi
    simp only [List.set_cons_zero, List.filterMap_cons, h]
  | a :: l, i + 1, p, q, hi, h => by
    simp at hi
    simp only [List.set_cons_succ, List.filterMap_cons, fm_same hi h]
theorem fm_new {c : Nat} : ∀ {l : List β} {i : Nat} {p q : β}, l[i]? = some p → f p = none → f q = some c → ((l.set i q).filterMap f).Perm (c :: l.filterMap f)
  | [], i, p, q, hi, _, _ => by simp at hi
  | a :: l, 0, p, q, hi, hp, hq => by
    simp at hi
    subst hi
    simp only [List.set_cons_zero, List.filterMap_cons, hp, hq]
    exact List.Perm.refl _
  | a :: l, i + 1, p, q, hi, hp, hq => by
    simp at hi
    have ih := fm_new hi hp hq
    simp only [List.set_cons_succ, List.filterMap_cons]
    cases f a with
    | none => exact ih
    | some b => exact (List.Perm.cons b ih).trans (List.Perm.swap c b _)
theorem fm_inj {c : Nat} : ∀ {l : List β} {i j : Nat} {p q : β}, (l.filterMap f).Nodup → l[i]? = some p → l[j]? = some q → f p = some c → f q = some c → i = j
  | [], i, j, p, q, _, hi, _, _, _ => by simp at hi
  | a :: l, 0, 0, p, q, _, _, _, _, _ => rfl
  | a :: l, 0, j + 1, p, q, hn, hi, hj, hp, hq => by
    simp at hi hj
    subst hi
    rw [List.filterMap_cons_some hp, List.nodup_cons] at hn
    exact absurd (List.mem_filterMap.2 ⟨q, List.mem_of_getElem? hj, hq⟩) hn.1
  | a :: l, i + 1, 0, p, q, hn, hi, hj, hp, hq => by
    simp at hi hj
    subst hj
    rw [List.filterMap_cons_some hq, List.nodup_cons] at hn
    exact absurd (List.mem_filterMap.2 ⟨p, List.mem_of_getElem? hi, hp⟩) hn.1
  | a :: l, i + 1, j + 1, p, q, hn, hi, hj, hp, hq => by
    simp at hi hj
    have hn' : (l.filterMap f).Nodup := by
      rw [List.filterMap_cons] at hn
      cases h : f a with
      | none => simpa [h] using hn
      | some b => rw [h] at hn; exact (List.nodup_cons.1 hn).2
    rw [fm_inj hn' hi hj hp hq]
end

theorem Chain.keep {α : Type} {m m' : Mem α} : ∀ {p : Option Nat} {L : List Nat}, Chain m p L → (∀ c ∈ L, m'.below c = m.below c) → (∀ c ∈ m.cells, c ∈ m'.cells) → Chain m' p L
  | _, [], h, _, _ => h
  | _, c :: _, ⟨hp, hc, hr⟩, hb, hs => ⟨hp, hs c hc, by rw [hb c (by simp)]; exact hr.keep (fun d hd => hb d (by simp [hd])) hs⟩

def isPush (s : OpS) : Bool := decide (s.pc ≤ 3)
def wonF (p : Nat × OpS) : Option Nat := if p.2.fin ∧ p.2.res = 1 then p.2.at_ else none
def pushF (p : Nat × OpS) : Option Nat := if isPush p.2 then p.2.at_ else none
def finF (p : Nat × OpS) : Option Nat := if isPush p.2 ∧ p.2.fin then p.2.at_ else none
def begF (p : Nat × OpS) : Option Nat := if isPush p.2 ∧ p.2.pc ≠ 1 then p.2.at_ else none

structure Once (m : Mem Int) (ops : List (Nat × OpS)) : Prop where
  okM : OkM m
  okO : ∀ p ∈ ops, OkO m p.2
  pc : ∀ p ∈ ops, 1 ≤ p.2.pc ∧ p.2.pc ≤ 6
  nd : m.cells.Nodup
  own : ops.filterMap pushF = m.cells
  ex : ∃ L, Chain m m.top L ∧ (L ++ ops.filterMap wonF).Perm (ops.filterMap finF)
  pd : m.pd = (ops.filterMap begF).length
  item : m.cells.map m.item = (List.range m.cells.length).map (fun (k : Nat) => (k : Int))
  res : ∀ p ∈ ops, isPush p.2 = true → p.2.res = 0
  fin : ∀ p ∈ ops, isPush p.2 = false → p.2.fin = true → 1 ≤ p.2.res ∧ p.2.res ≤ 3
  one : ∀ p ∈ ops, p.2.fin = true → p.2.pc ≠ 1

theorem Once.unf {m : Mem Int} {ops : List (Nat × OpS)} (h : Once m ops) {i o c : Nat} {s : OpS} (hi : ops[i]? = some (o, s)) (hp : isPush s = true) (hf : s.fin = false) (ha : s.at_ = some c) : c ∉ ops.filterMap finF := by
  intro hc
  obtain ⟨q, hq, e⟩ := List.mem_filterMap.1 hc
  obtain ⟨j, hj, rfl⟩ := List.mem_iff_getElem.1 hq
  unfold finF at e
  split at e
  · rename_i hh
    have hj' : ops[j]? = some ops[j] := List.getElem?_eq_getElem hj
    have := fm_inj (f := pushF) (c := c) (by rw [h.own]; exact h.nd) hi hj' (by simp [pushF, hp, ha]) (by simp [pushF, hh.1, e])
    subst this
    rw [hi] at hj'
    simp only [Option.some.injEq] at hj'
    rw [← hj'] at hh
    simp [hf] at hh
  · cases e

/-- What a step leaves as it was. -/
theorem Once.same {m m' : Mem Int} {ops : List (Nat × OpS)} (h : Once m ops) {i o : Nat} {s s' : OpS} (hi : ops[i]? = some (o, s)) (hcells : m'.cells = m.cells) (hitem : m'.item = m.item) (hM : OkM m') (hO : OkO m' s') (hpc : 1 ≤ s'.pc ∧ s'.pc ≤ 6)
    (hpush : isPush s' = isPush s) (hat : isPush s = true → s'.at_ = s.at_) (hex : ∃ L, Chain m' m'.top L ∧ (L ++ (ops.set i (o, s')).filterMap wonF).Perm ((ops.set i (o, s')).filterMap finF)) (hpd : m'.pd = ((ops.set i (o, s')).filterMap begF).length)
    (hres : isPush s = true → s'.res = 0) (hfin : isPush s = false → s'.fin = true → 1 ≤ s'.res ∧ s'.res ≤ 3) (hone : s'.fin = true → s'.pc ≠ 1) : Once m' (ops.set i (o, s')) := by
  refine ⟨hM, fun p hp => ?_, fun p hp => ?_, by rw [hcells]; exact h.nd, ?_, hex, hpd, by rw [hcells, hitem]; exact h.item, fun p hp => ?_, fun p hp => ?_, fun p hp => ?_⟩
  · rcases List.mem_or_eq_of_mem_set hp with hp | rfl
    · have := h.okO p hp
      exact ⟨by rw [hcells]; exact this.at_, this.has, this.zero, this.won⟩
    · exact hO
  · rcases List.mem_or_eq_of_mem_set hp with hp | rfl
    · exact h.pc p hp
    · exact hpc
  · rw [hcells, ← h.own]
    refine fm_same hi ?_
    simp only [pushF, hpush]
    split
    · rename_i e; exact hat e
    · rfl
  · rcases List.mem_or_eq_of_mem_set hp with hp | rfl
    · exact h.res p hp
    · intro e; exact hres (hpush.symm.trans e)
  · rcases List.mem_or_eq_of_mem_set hp with hp | rfl
    · exact h.fin p hp
    · intro e; exact hfin (hpush.symm.trans e)
  · rcases List.mem_or_eq_of_mem_set hp with hp | rfl
    · exact h.one p hp
    · exact hone

theorem Once.step {m : Mem Int} {ops : List (Nat × OpS)} (h : Once m ops) {i o : Nat} {s : OpS} (hi : ops[i]? = some (o, s)) : Once (stp m s).1 (ops.set i (o, (stp m s).2.1)) := by
  have hmem : (o, s) ∈ ops := List.mem_of_getElem? hi
  have hok := h.okO _ hmem
  have hM := stp_okM h.okM hok
  have hO := stp_okO h.okM hok
  have hpc := stp_pc (m := m) (h.pc _ hmem)
  have hp0 := h.pc _ hmem
  have hr := h.res _ hmem
  have hf := h.fin _ hmem
  obtain ⟨L, hL, hPerm⟩ := h.ex
  obtain ⟨pc, at_, fin, res⟩ := s
  dsimp only at hok hp0 hr hf
  have hz := hok.zero
  dsimp only at hz
  cases fin with
  | true =>
    have e : ops.set i (o, ⟨pc, at_, true, res⟩) = ops := by
      obtain ⟨hl, e⟩ := List.getElem?_eq_some_iff.1 hi
      conv => rhs; rw [← List.set_getElem_self hl]
      rw [e]
    simpa [stp, e] using h
  | false =>
    have hz := hz rfl
    subst hz
    match pc with
    | 0 => omega
    | n + 7 => omega
    | 1 =>
      obtain ⟨c, rfl⟩ := hok.has (by simp)
      have e : stp m ⟨1, some c, false, 0⟩ = ({ m with pd := m.pd + 1 }, ⟨2, some c, false, 0⟩, false) := rfl
      rw [e] at hM hO hpc ⊢
      refine h.same hi rfl rfl hM hO hpc rfl (fun _ => rfl) ⟨L, hL.keep (fun _ _ => rfl) (fun _ hc => hc), ?_⟩ ?_ (fun _ => rfl) (fun e => by simp [isPush] at e) (by simp)
      · rw [fm_same (f := wonF) hi (by simp [wonF]), fm_same (f := finF) hi (by simp [finF])]
        exact hPerm
      · rw [(fm_new (f := begF) (c := c) hi (by simp [begF]) (by simp [begF, isPush])).length_eq, List.length_cons, h.pd]
        simp
    | 2 =>
      obtain ⟨c, rfl⟩ := hok.has (by simp)
      have e : stp m ⟨2, some c, false, 0⟩ = ({ m with below := upd m.below c m.top }, ⟨3, some c, false, 0⟩, false) := rfl
      rw [e] at hM hO hpc ⊢
      have hcL : c ∉ L := fun hc => h.unf hi rfl rfl rfl ((hPerm.mem_iff).1 (List.mem_append.2 (.inl hc)))
      refine h.same hi rfl rfl hM hO hpc rfl (fun _ => rfl) ⟨L, hL.keep (fun d hd => upd_other _ _ (fun e => hcL (e ▸ hd))) (fun _ hc => hc), ?_⟩ ?_ (fun _ => rfl) (fun e => by simp [isPush] at e) (by simp)
      · rw [fm_same (f := wonF) hi (by simp [wonF]), fm_same (f := finF) hi (by simp [finF])]
        exact hPerm
      · rw [fm_same (f := begF) hi (by simp [begF, isPush])]
        exact h.pd
    | 3 =>
      obtain ⟨c, rfl⟩ := hok.has (by simp)
      have hcm : c ∈ m.cells := hok.at_ c rfl
      by_cases ht : m.top = m.below c
      · have e : stp m ⟨3, some c, false, 0⟩ = ({ m with top := some c }, ⟨2, some c, true, 0⟩, true) := by simp [stp, ht]
        rw [e] at hM hO hpc ⊢
        refine h.same hi rfl rfl hM hO hpc rfl (fun _ => rfl) ⟨c :: L, ⟨rfl, hcm, ?_⟩, ?_⟩ ?_ (fun _ => rfl) (fun e => by simp [isPush] at e) (by simp)
        · show Chain _ (m.below c) L
          rw [← ht]
          exact hL.keep (fun _ _ => rfl) (fun _ hc => hc)
        · rw [fm_same (f := wonF) hi (by simp [wonF])]
          exact (List.Perm.cons c hPerm).trans (fm_new (f := finF) hi (by simp [finF]) (by simp [finF, isPush])).symm
        · rw [fm_same (f := begF) hi (by simp [begF, isPush])]
          exact h.pd
      · have e : stp m ⟨3, some c, false, 0⟩ = (m, ⟨2, some c, false, 0⟩, false) := by simp [stp, ht]
        rw [e] at hM hO hpc ⊢
        refine h.same hi rfl rfl hM hO hpc rfl (fun _ => rfl) ⟨L, hL, ?_⟩ ?_ (fun _ => rfl) (fun e => by simp [isPush] at e) (by simp)
        · rw [fm_same (f := wonF) hi (by simp [wonF]), fm_same (f := finF) hi (by simp [finF])]
          exact hPerm
        · rw [fm_same (f := begF) hi (by simp [begF, isPush])]
          exact h.pd
    | 4 =>
      have e : stp m ⟨4, at_, false, 0⟩ = (m, ⟨if m.top = none then 6 else 5, m.top, false, 0⟩, false) := rfl
      rw [e] at hM hO hpc ⊢
      have hip : isPush ⟨if m.top = none then 6 else 5, m.top, false, 0⟩ = false := by
        unfold isPush
        split <;> rfl
      refine h.same hi rfl rfl hM hO hpc hip (fun e => by simp [isPush] at e) ⟨L, hL, ?_⟩ ?_ (fun e => by simp [isPush] at e) (fun _ e => by cases e) (by simp)
      · rw [fm_same (f := wonF) hi (by simp [wonF]), fm_same (f := finF) hi (by simp [finF])]
        exact hPerm
      · rw [fm_same (f := begF) hi (by simp [begF, hip]; simp [isPush])]
        exact h.pd
    | 5 =>
      obtain ⟨c, rfl⟩ := hok.has (by simp)
      have hcm : c ∈ m.cells := hok.at_ c rfl
      by_cases ht : m.top = some c
      · have e : stp m ⟨5, some c, false, 0⟩ = ({ m with top := m.below c }, ⟨4, some c, true, 1⟩, true) := by simp [stp, ht]
        rw [e] at hM hO hpc ⊢
        cases L with
        | nil => rw [show m.top = none from hL] at ht; cases ht
        | cons d L =>
          obtain ⟨hd, _, hr'⟩ := hL
          rw [ht] at hd
          injection hd with hd
          subst hd
          refine h.same hi rfl rfl hM hO hpc rfl (fun _ => rfl) ⟨L, hr'.keep (fun _ _ => rfl) (fun _ hc => hc), ?_⟩ ?_ (fun e => by simp [isPush] at e) (fun _ _ => by simp) (by simp)
          · rw [fm_same (f := finF) hi (by simp [finF, isPush])]
            refine List.Perm.trans ?_ hPerm
            refine (List.Perm.append_left L (fm_new (f := wonF) (c := c) hi (by simp [wonF]) (by simp [wonF]))).trans ?_
            exact List.perm_middle
          · rw [fm_same (f := begF) hi (by simp [begF, isPush])]
            exact h.pd
      · have e : stp m ⟨5, some c, false, 0⟩ = (m, ⟨4, some c, false, 0⟩, false) := by simp [stp, ht]
        rw [e] at hM hO hpc ⊢
        refine h.same hi rfl rfl hM hO hpc rfl (fun _ => rfl) ⟨L, hL, ?_⟩ ?_ (fun e => by simp [isPush] at e) (fun _ e => by cases e) (by simp)
        · rw [fm_same (f := wonF) hi (by simp [wonF]), fm_same (f := finF) hi (by simp [finF])]
          exact hPerm
        · rw [fm_same (f := begF) hi (by simp [begF, isPush])]
          exact h.pd
    | 6 =>
      have e : stp m ⟨6, at_, false, 0⟩ = (m, ⟨6, at_, true, if m.pd = 0 then 3 else 2⟩, true) := rfl
      rw [e] at hM hO hpc ⊢
      have hr2 : 2 ≤ (if m.pd = 0 then (3 : Int) else 2) ∧ (if m.pd = 0 then (3 : Int) else 2) ≤ 3 := by split <;> omega
      generalize (if m.pd = 0 then (3 : Int) else 2) = r at *
      refine h.same hi rfl rfl hM hO hpc rfl (fun e => by simp [isPush] at e) ⟨L, hL, ?_⟩ ?_ (fun e => by simp [isPush] at e) (fun _ _ => by dsimp only; omega) (by simp)
      · have hne : ¬ r = 1 := by omega
        rw [fm_same (f := wonF) hi (by simp [wonF, hne]), fm_same (f := finF) hi (by simp [finF, isPush])]
        exact hPerm
      · rw [fm_same (f := begF) hi (by simp [begF, isPush])]
        exact h.pd

theorem set_back {ops : List (Nat × OpS)} {i : Nat} {p : Nat × OpS} (hi : ops[i]? = some p) : ops.set i p = ops := by
  obtain ⟨hl, e⟩ := List.getElem?_eq_some_iff.1 hi
  conv => rhs; rw [← List.set_getElem_self hl]
  rw [e]

theorem Once.run {o i : Nat} : ∀ (n : Nat) {m : Mem Int} {ops : List (Nat × OpS)} {s : OpS}, Once m ops → ops[i]? = some (o, s) → Once (allSteps n m s).1 (ops.set i (o, (allSteps n m s).2))
  | 0, m, ops, s, h, hi => by
    simp only [allSteps, set_back hi]
    exact h
  | n + 1, m, ops, s, h, hi => by
    unfold allSteps
    split
    · simp only [set_back hi]
      exact h
    · have hl : i < ops.length := (List.getElem?_eq_some_iff.1 hi).1
      have := Once.run n (h.step hi) (s := (stp m s).2.1) (by rw [List.getElem?_set_self hl])
      rw [List.set_set] at this
      exact this

theorem Once.take {m : Mem Int} {ops : List (Nat × OpS)} (h : Once m ops) (o : Nat) : Once m (ops ++ [(o, opTake)]) := by
  obtain ⟨L, hL, hP⟩ := h.ex
  refine ⟨h.okM, fun p hp => ?_, fun p hp => ?_, h.nd, ?_, ⟨L, hL, ?_⟩, ?_, h.item, fun p hp => ?_, fun p hp => ?_, fun p hp => ?_⟩
  · rcases List.mem_append.1 hp with hp | hp
    · exact h.okO p hp
    · rw [List.mem_singleton] at hp
      subst hp
      exact ⟨on_none _, fun h => (by simp [opTake] at h), fun _ => rfl, fun e => (by simp [opTake] at e)⟩
  · rcases List.mem_append.1 hp with hp | hp
    · exact h.pc p hp
    · rw [List.mem_singleton] at hp
      subst hp
      simp [opTake]
  · simpa [pushF, isPush, opTake] using h.own
  · simpa [wonF, finF, isPush, opTake] using hP
  · simpa [begF, isPush, opTake] using h.pd
  · rcases List.mem_append.1 hp with hp | hp
    · exact h.res p hp
    · rw [List.mem_singleton] at hp
      subst hp
      exact fun _ => rfl
  · rcases List.mem_append.1 hp with hp | hp
    · exact h.fin p hp
    · rw [List.mem_singleton] at hp
      subst hp
      exact fun _ e => by cases e
  · rcases List.mem_append.1 hp with hp | hp
    · exact h.one p hp
    · rw [List.mem_singleton] at hp
      subst hp
      exact fun e => by cases e

theorem Once.push {m : Mem Int} {ops : List (Nat × OpS)} (h : Once m ops) (o c : Nat) (hc : c ∉ m.cells) : Once (addCell m c m.cells.length) (ops ++ [(o, opPush c)]) := by
  obtain ⟨L, hL, hP⟩ := h.ex
  have hLc : ∀ d ∈ L, d ∈ m.cells := by
    intro d hd
    have h1 := (hP.mem_iff).1 (List.mem_append.2 (.inl hd))
    obtain ⟨q, hq, e⟩ := List.mem_filterMap.1 h1
    unfold finF at e
    split at e
    · exact (h.okO q hq).at_ d e
    · cases e
  have hne : ∀ d ∈ m.cells, d ≠ c := fun d hd e => hc (e ▸ hd)
  refine ⟨⟨h.okM.top.more c, fun d hd => ?_⟩, fun p hp => ?_, fun p hp => ?_, ?_, ?_, ⟨L, hL.keep (fun d hd => upd_other _ _ (hne d (hLc d hd))) (fun d hd => List.mem_append.2 (.inl hd)), ?_⟩, ?_, ?_, fun p hp => ?_, fun p hp => ?_, fun p hp => ?_⟩
  · simp only [addCell]
    by_cases e : d = c
    · subst e
      rw [upd_same]
      exact on_none _
    · rw [upd_other _ _ e]
      rcases List.mem_append.1 hd with hd | hd
      · exact (h.okM.below d hd).more c
      · rw [List.mem_singleton] at hd
        exact absurd hd e
  · rcases List.mem_append.1 hp with hp | hp
    · have := h.okO p hp
      exact ⟨this.at_.more c, this.has, this.zero, this.won⟩
    · rw [List.mem_singleton] at hp
      subst hp
      exact ⟨on_some (by simp [addCell]), fun _ => ⟨_, rfl⟩, fun _ => rfl, fun _ => ⟨_, rfl⟩⟩
  · rcases List.mem_append.1 hp with hp | hp
    · exact h.pc p hp
    · rw [List.mem_singleton] at hp
      subst hp
      simp [opPush]
  · simp only [addCell]
    rw [List.nodup_append]
    refine ⟨h.nd, by simp, fun a ha b hb => ?_⟩
    rw [List.mem_singleton] at hb
    subst hb
    exact hne a ha
  · simp [pushF, isPush, opPush, addCell, h.own]
  · simpa [wonF, finF, isPush, opPush] using hP
  · simpa [begF, isPush, opPush, addCell] using h.pd
  · simp only [addCell, List.map_append, List.map_singleton, upd_same, List.length_append, List.length_singleton, List.range_succ]
    congr 1
    rw [← h.item]
    exact List.map_congr_left fun d hd => upd_other _ _ (hne d hd)
  · rcases List.mem_append.1 hp with hp | hp
    · exact h.res p hp
    · rw [List.mem_singleton] at hp
      subst hp
      exact fun _ => rfl
  · rcases List.mem_append.1 hp with hp | hp
    · exact h.fin p hp
    · rw [List.mem_singleton] at hp
      subst hp
      exact fun _ e => by cases e
  · rcases List.mem_append.1 hp with hp | hp
    · exact h.one p hp
    · rw [List.mem_singleton] at hp
      subst hp
      exact fun e => by cases e

theorem once0 : Once mem0I [] := ⟨⟨on_none _, fun c hc => by cases hc⟩, fun p hp => (by cases hp), fun p hp => (by cases hp), List.nodup_nil, rfl, ⟨[], rfl, List.Perm.refl _⟩, rfl, rfl, fun p hp => (by cases hp), fun p hp => (by cases hp), fun p hp => (by cases hp)⟩

theorem fm_congr {β : Type} {f g : β → Option Nat} : ∀ {l : List β}, (∀ p ∈ l, f p = g p) → l.filterMap f = l.filterMap g
  | [], _ => rfl
  | a :: l, h => by
    rw [List.filterMap_cons, List.filterMap_cons, h a (by simp), fm_congr fun p hp => h p (by simp [hp])]

/-- All operations are finished: what was taken and what is on the stack are the items, each once. -/
theorem Once.all {m : Mem Int} {ops : List (Nat × OpS)} (h : Once m ops) (hf : ∀ p ∈ ops, p.2.fin = true) :
    ∃ L, Chain m m.top L ∧ (L ++ ops.filterMap wonF).Perm m.cells ∧ m.pd = m.cells.length := by
  obtain ⟨L, hL, hP⟩ := h.ex
  have e1 : ops.filterMap finF = m.cells := by
    rw [← h.own]
    exact fm_congr fun p hp => by simp [finF, pushF, hf p hp]
  refine ⟨L, hL, e1 ▸ hP, ?_⟩
  have e2 : ops.filterMap begF = m.cells := by
    rw [← h.own]
    refine fm_congr fun p hp => ?_
    have hz : p.2.pc ≠ 1 := h.one p hp (hf p hp)
    simp [begF, pushF, hz]
  rw [h.pd, e2]

end Go.Proofs.Ytokdalilnckkoaa
