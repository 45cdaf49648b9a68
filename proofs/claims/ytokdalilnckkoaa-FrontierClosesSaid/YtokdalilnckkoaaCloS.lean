/- FrontierCloses: every step of a worker keeps what holds; it is an event, or nothing changes but the worker's own place. No program in sight. -/
import Derived.Test.YtokdalilnckkoaaCloI
namespace Go.Proofs.Ytokdalilnckkoaa
open Go.RowKit

def opAt (ops : List (Nat × OpS)) (w : CW) : Option OpS := w.ix.bind fun i => ops[i]?.map (·.2)
/-- The worker has an item, or reports one. -/
def busyB (ops : List (Nat × OpS)) (w : CW) : Bool := w.having || (match opAt ops w with | some s => s.pc == 7 | none => false)
def nuo (m : Mem Int) (s : OpS) : Nat :=
  match s.pc with
  | 1 => 1
  | 2 => 2
  | 3 => if m.top = m.below (s.at_.getD 0) then 1 else 3
  | 4 => 2
  | 5 => if m.top = s.at_ then 1 else 3
  | 6 => 4
  | _ => 1
/-- How many steps a worker needs up to its next event if nothing else happens. -/
def nu (m : Mem Int) (ops : List (Nat × OpS)) (w : CW) : Nat :=
  match opAt ops w with
  | none => if busyB ops w then 2 else 3
  | some s => nuo m s
/-- How many steps a worker needs to end when nothing is pending. -/
def nue (ops : List (Nat × OpS)) (w : CW) : Nat :=
  match opAt ops w with
  | none => 3
  | some s => match s.pc with | 4 => 2 | 5 => 3 | 6 => 1 | _ => 0

structure Quiet (m : Mem Int) (ops : List (Nat × OpS)) (ws : List CW) (k : Nat) (w : CW) (m' : Mem Int) (ops' : List (Nat × OpS)) (w' : CW) : Prop where
  top : m'.top = m.top
  pd : m'.pd = m.pd
  nu : ∀ j v, j ≠ k → ws[j]? = some v → nu m' ops' v = nu m ops v
  busy : ∀ j v, j ≠ k → ws[j]? = some v → busyB ops' v = busyB ops v
  nue : ∀ j v, j ≠ k → ws[j]? = some v → nue ops' v = nue ops v
  own : busyB ops' w' = busyB ops w
  less : busyB ops w = true ∨ m.top ≠ none → Go.Proofs.Ytokdalilnckkoaa.nu m' ops' w' + 1 ≤ Go.Proofs.Ytokdalilnckkoaa.nu m ops w
  last : busyB ops w = false → m.top = none → m.pd = 0 → w'.ended = true ∨ (w'.ended = false ∧ Go.Proofs.Ytokdalilnckkoaa.nue ops' w' + 1 ≤ Go.Proofs.Ytokdalilnckkoaa.nue ops w)
  live : m.pd ≠ 0 → w'.ended = false

section
variable {Ω : Om} {m m' : Mem Int} {ops ops' : List (Nat × OpS)} {ws : List CW} {n p p' : Int} {seen seen' : List Int} {i k o : Nat} {s s' : OpS} {w w' : CW} {L L' : List Nat}
theorem ixv_at (hi : ops[i]? = some (o, s)) : ixv Ω m ops (some i) = opv Ω m s := by simp [ixv, hi]
theorem ixv_set (hi : ops[i]? = some (o, s)) : ixv Ω m (ops.set i (o, s')) (some i) = opv Ω m s' := by
  have hl := (List.getElem?_eq_some_iff.1 hi).1
  simp [ixv, hl]
theorem opAt_at (hix : w.ix = some i) (hi : ops[i]? = some (o, s)) : opAt ops w = some s := by simp [opAt, hix, hi]
theorem opAt_set (hix : w.ix = some i) (hi : ops[i]? = some (o, s)) : opAt (ops.set i (o, s')) w = some s' := by
  have hl := (List.getElem?_eq_some_iff.1 hi).1
  simp [opAt, hix, hl]

/-- The other workers, behind a step that changes neither the top nor their cells. -/
theorem Inv.others (h : Inv n p m ops ws seen) (hk : ws[k]? = some w) (hix : w.ix = some i) (htop : m'.top = m.top) (hb : ∀ (i' o' : Nat) (t : OpS), i' ≠ i → ops[i']? = some (o', t) → t.pc = 3 → m'.below (t.at_.getD 0) = m.below (t.at_.getD 0)) :
    (∀ j v, j ≠ k → ws[j]? = some v → nu m' (ops.set i (o, s')) v = nu m ops v) ∧ (∀ j v, j ≠ k → ws[j]? = some v → busyB (ops.set i (o, s')) v = busyB ops v) ∧ (∀ j v, j ≠ k → ws[j]? = some v → nue (ops.set i (o, s')) v = nue ops v) := by
  have key : ∀ j v, j ≠ k → ws[j]? = some v → opAt (ops.set i (o, s')) v = opAt ops v := by
    intro j v hj hv
    unfold opAt
    cases hv' : v.ix with
    | none => rfl
    | some i' =>
      have hne : i ≠ i' := fun e => hj (h.dist j k i v w hv hk (by rw [hv', e]) hix)
      simp only [Option.bind_some]
      rw [List.getElem?_set_ne hne]
  have kb : ∀ j v, j ≠ k → ws[j]? = some v → busyB (ops.set i (o, s')) v = busyB ops v := fun j v hj hv => by
    unfold busyB
    rw [key j v hj hv]
  refine ⟨fun j v hj hv => ?_, kb, fun j v hj hv => by unfold nue; rw [key j v hj hv]⟩
  unfold nu
  rw [key j v hj hv, kb j v hj hv]
  cases he : opAt ops v with
  | none => rfl
  | some t =>
    dsimp only
    unfold nuo
    rw [htop]
    split <;> try rfl
    rename_i hp
    have : m'.below (t.at_.getD 0) = m.below (t.at_.getD 0) := by
      unfold opAt at he
      cases hv' : v.ix with
      | none => rw [hv'] at he; cases he
      | some i' =>
        rw [hv'] at he
        simp only [Option.bind_some] at he
        cases hq : ops[i']? with
        | none => rw [hq] at he; cases he
        | some q =>
          rw [hq] at he
          simp at he
          have hne : i' ≠ i := fun e => hj (h.dist j k i v w hv hk (by rw [hv', e]) hix)
          exact hb i' q.1 t hne (by rw [hq, ← he]) hp
    rw [this]

theorem Stk.apart' (hk : Stk m ops) {i j o o' c : Nat} {s s' : OpS} (hi : ops[i]? = some (o, s)) (hj : ops[j]? = some (o', s')) (hp : s.pc ≤ 3) (hp' : s'.pc ≤ 3) (ha : s.at_ = some c) (ha' : s'.at_ = some c) : i = j :=
  fm_inj (f := pushF) (c := c) (by rw [hk.own]; exact hk.nd) hi hj (by simp [pushF, isPush, hp, ha]) (by simp [pushF, isPush, hp', ha'])

set_option maxHeartbeats 1000000 in
/-- A step of the operation of a worker. -/
theorem Inv.st (h : Inv n p m ops ws seen) (hk : ws[k]? = some w) (hix : w.ix = some i) (hi : ops[i]? = some (o, s)) :
    ∃ p', Inv n p' (stp m s).1 (ops.set i (o, (stp m s).2.1)) (ws.set k (wfin (stp m s).1 w (stp m s).2.1 seen).1) (wfin (stp m s).1 w (stp m s).2.1 seen).2 ∧
      (p' = p - 1 ∨ (p' = p ∧ Quiet m ops ws k w (stp m s).1 (ops.set i (o, (stp m s).2.1)) (wfin (stp m s).1 w (stp m s).2.1 seen).1)) := by
  have hw : w ∈ ws := List.mem_of_getElem? hk
  have hwk := h.wok w hw
  obtain ⟨o', s0, hi0, hf, hhav, hidle⟩ := hwk.op i hix
  rw [hi] at hi0
  obtain ⟨rfl, rfl⟩ : o = o' ∧ s = s0 := by simpa using hi0
  clear hi0
  have hen : w.ended = false := by
    cases he : w.ended with
    | false => rfl
    | true => have := (hwk.end_ he).1; rw [hix] at this; cases this
  have hstk := h.stk.step hi
  have hok := h.stk.okO _ (List.mem_of_getElem? hi)
  have hpc := h.stk.pc _ (List.mem_of_getElem? hi)
  have hz := hok.zero hf
  obtain ⟨L, hL, e1, e2, e3, e4⟩ := h.ex
  obtain ⟨hL', hcut⟩ := h.stk.chain hi hL
  have howe := h.owes hw
  obtain ⟨ix, todo, having, ended⟩ := w
  obtain ⟨pc, at_, fin, res⟩ := s
  dsimp only at hix hf hhav hidle hen hok hpc hz hcut
  subst hix
  subst hf
  subst hen
  subst hz
  have hl := (List.getElem?_eq_some_iff.1 hi).1
  have v1 : ∀ Ω, wkv Ω m ops ⟨some i, todo, having, false⟩ = (todo.map Ω.todo).sum + (if having = true then Ω.hv else 0) + opv Ω m ⟨pc, at_, false, 0⟩ := fun Ω => by
    unfold wkv
    dsimp only
    rw [ixv_at hi]
  have v2 : ∀ Ω (mm : Mem Int) (t : OpS), wkv Ω mm (ops.set i (o, t)) ⟨some i, todo, having, false⟩ = (todo.map Ω.todo).sum + (if having = true then Ω.hv else 0) + opv Ω mm t := fun Ω mm t => by
    unfold wkv
    dsimp only
    rw [ixv_set hi]
  have wk : ∀ (mm : Mem Int) (t : OpS), t.fin = false → (t.pc ≤ 3 → having = true) → (4 ≤ t.pc → having = false ∧ todo = []) → WOk mm (ops.set i (o, t)) ⟨some i, todo, having, false⟩ := fun mm t h1 h2 h3 =>
    ⟨(fun e => by cases e), hwk.todo, hwk.pos, (fun j hj => by
      obtain rfl : i = j := by simpa using hj
      exact ⟨o, t, by simp [hl], h1, h2, h3⟩)⟩
  have v3 : ∀ Ω (mm : Mem Int) (q : List (Nat × OpS)) (td : List Int) (hv e : Bool), wkv Ω mm q ⟨none, td, hv, e⟩ = (td.map Ω.todo).sum + (if hv = true then Ω.hv else 0) := fun Ω mm q td hv e => by simp [wkv, ixv]
  have a1 : opAt ops ⟨some i, todo, having, false⟩ = some ⟨pc, at_, false, 0⟩ := opAt_at rfl hi
  have a2 : ∀ t, opAt (ops.set i (o, t)) ⟨some i, todo, having, false⟩ = some t := fun t => opAt_set rfl hi
  have a3 : ∀ q td hv e, opAt q ⟨none, td, hv, e⟩ = none := fun _ _ _ _ => rfl
  obtain rfl | rfl | rfl | rfl | rfl | rfl | rfl : pc = 1 ∨ pc = 2 ∨ pc = 3 ∨ pc = 4 ∨ pc = 5 ∨ pc = 6 ∨ pc = 7 := by omega
  · -- begin
    have hh : having = true := hhav (by omega)
    subst hh
    obtain ⟨c, rfl⟩ := hok.has (by simp)
    have e : stp m ⟨1, some c, false, 0⟩ = ({ m with pd := m.pd + 1 }, ⟨2, some c, false, 0⟩, false) := rfl
    rw [e] at hstk hL' ⊢
    have hw0 : wfin { m with pd := m.pd + 1 } ⟨some i, todo, true, false⟩ ⟨2, some c, false, 0⟩ seen = (⟨some i, todo, true, false⟩, seen) := rfl
    dsimp only at hstk hL' ⊢
    rw [hw0]
    dsimp only
    have hpd : 1 ≤ m.pd := by
      have h1 := v1 oPd
      have h2 := (h.wv oPd_ok hw).1
      simp only [opv, oPd] at h1 h2 howe
      simp at h1
      omega
    refine ⟨p - 1, h.after hk rfl hstk rfl rfl hL hL' (wk _ _ rfl (fun _ => rfl) (by simp)) (.inl rfl) (fun e => by omega) ?_ ?_ ?_ ?_, .inl rfl⟩
    all_goals
      rw [v1, v2]
      simp [stkStep, opv, oPd, oCnt, oOne, oP]
      try omega
  · -- read
    have hh : having = true := hhav (by omega)
    subst hh
    obtain ⟨c, rfl⟩ := hok.has (by simp)
    have e : stp m ⟨2, some c, false, 0⟩ = ({ m with below := upd m.below c m.top }, ⟨3, some c, false, 0⟩, false) := rfl
    rw [e] at hstk hL' ⊢
    have hw0 : wfin { m with below := upd m.below c m.top } ⟨some i, todo, true, false⟩ ⟨3, some c, false, 0⟩ seen = (⟨some i, todo, true, false⟩, seen) := rfl
    dsimp only at hstk hL' ⊢
    rw [hw0]
    dsimp only
    obtain ⟨q1, q2, q3⟩ := h.others (m' := { m with below := upd m.below c m.top }) (o := o) (s' := ⟨3, some c, false, 0⟩) hk rfl rfl (by
      intro i' o' t hne ht hp
      obtain ⟨d, hd⟩ := (h.stk.okO _ (List.mem_of_getElem? ht)).has (by dsimp only; omega)
      dsimp only at hd
      rw [hd]
      refine upd_other _ _ fun e => hne ?_
      have e' : d = c := e
      subst e'
      exact h.stk.apart' ht hi (by omega) (by simp) hd rfl)
    refine ⟨p, h.after hk rfl hstk rfl rfl hL hL' (wk _ _ rfl (fun _ => rfl) (by simp)) (.inl rfl) (fun e => e) ?_ ?_ ?_ ?_, .inr ⟨rfl, rfl, rfl, q1, q2, q3, by simp [busyB], ?_, by simp [busyB], fun _ => rfl⟩⟩
    · rw [v1, v2]; simp [stkStep, opv]; omega
    · rw [v1, v2]; simp [stkStep, opv]; omega
    · rw [v1, v2]; simp [stkStep, opv]; omega
    · rw [v1, v2]; simp [stkStep, opv]; omega
    · intro _
      unfold nu
      rw [a1, a2]
      simp [nuo, upd]
  · -- put
    have hh : having = true := hhav (by omega)
    subst hh
    obtain ⟨c, rfl⟩ := hok.has (by simp)
    by_cases ht : m.top = m.below c
    · have e : stp m ⟨3, some c, false, 0⟩ = ({ m with top := some c }, ⟨2, some c, true, 0⟩, true) := by simp [stp, ht]
      rw [e] at hstk hL' ⊢
      have hw0 : wfin { m with top := some c } ⟨some i, todo, true, false⟩ ⟨2, some c, true, 0⟩ seen = (⟨none, todo, true, false⟩, seen) := by simp [wfin]
      dsimp only at hstk hL' ⊢
      rw [hw0]
      dsimp only
      have es : stkStep m ⟨3, some c, false, 0⟩ L = c :: L := by simp [stkStep, ht]
      rw [es] at hL'
      refine ⟨p - 1, h.after hk rfl hstk rfl rfl hL hL' ⟨(fun e => by cases e), hwk.todo, hwk.pos, fun j hj => by cases hj⟩ (.inr rfl) (fun e => e) ?_ ?_ ?_ ?_, .inl rfl⟩
      all_goals
        rw [v1, v3]
        simp [opv, oPd, oCnt, oOne, oP]
        try omega
    · have e : stp m ⟨3, some c, false, 0⟩ = (m, ⟨2, some c, false, 0⟩, false) := by simp [stp, ht]
      rw [e] at hstk hL' ⊢
      have hw0 : wfin m ⟨some i, todo, true, false⟩ ⟨2, some c, false, 0⟩ seen = (⟨some i, todo, true, false⟩, seen) := rfl
      dsimp only at hstk hL' ⊢
      rw [hw0]
      dsimp only
      obtain ⟨q1, q2, q3⟩ := h.others (m' := m) (o := o) (s' := ⟨2, some c, false, 0⟩) hk rfl rfl (fun _ _ _ _ _ _ => rfl)
      have es : stkStep m ⟨3, some c, false, 0⟩ L = L := by simp [stkStep, ht]
      rw [es] at hL'
      refine ⟨p, h.after hk rfl hstk rfl rfl hL hL' (wk _ _ rfl (fun _ => rfl) (by simp)) (.inl rfl) (fun e => e) ?_ ?_ ?_ ?_, .inr ⟨rfl, rfl, rfl, q1, q2, q3, by simp [busyB], ?_, by simp [busyB], fun _ => rfl⟩⟩
      · rw [v1, v2]; simp [opv]; omega
      · rw [v1, v2]; simp [opv]; omega
      · rw [v1, v2]; simp [opv]; omega
      · rw [v1, v2]; simp [opv]; omega
      · intro _
        unfold nu
        rw [a1, a2]
        simp [nuo, ht]
  · -- look
    obtain ⟨hh, htd⟩ := hidle (by omega)
    subst hh
    subst htd
    have e : stp m ⟨4, at_, false, 0⟩ = (m, ⟨if m.top = none then 6 else 5, m.top, false, 0⟩, false) := rfl
    rw [e] at hstk hL' ⊢
    have hw0 : wfin m ⟨some i, [], false, false⟩ ⟨if m.top = none then 6 else 5, m.top, false, 0⟩ seen = (⟨some i, [], false, false⟩, seen) := rfl
    dsimp only at hstk hL' ⊢
    rw [hw0]
    dsimp only
    obtain ⟨q1, q2, q3⟩ := h.others (m' := m) (o := o) (s' := ⟨if m.top = none then 6 else 5, m.top, false, 0⟩) hk rfl rfl (fun _ _ _ _ _ _ => rfl)
    have hp4 : 4 ≤ (if m.top = none then 6 else 5) ∧ (if m.top = none then 6 else 5) ≤ 6 := by split <;> omega
    refine ⟨p, h.after hk rfl hstk rfl rfl hL (by simpa [stkStep] using hL') (wk _ _ rfl (fun e => by dsimp only at e; omega) (fun _ => ⟨rfl, rfl⟩)) (.inl rfl) (fun e => e) ?_ ?_ ?_ ?_, .inr ⟨rfl, rfl, rfl, q1, q2, q3, ?_, ?_, ?_, fun _ => rfl⟩⟩
    · rw [v1, v2]; by_cases ht : m.top = none <;> simp [opv, ht]
    · rw [v1, v2]; by_cases ht : m.top = none <;> simp [opv, ht]
    · rw [v1, v2]; by_cases ht : m.top = none <;> simp [opv, ht]
    · rw [v1, v2]; by_cases ht : m.top = none <;> simp [opv, ht]
    · unfold busyB
      rw [a1, a2]
      by_cases ht : m.top = none <;> simp [ht]
    · intro hb
      have ht : m.top ≠ none := by
        rcases hb with hb | hb
        · unfold busyB at hb
          rw [a1] at hb
          simp at hb
        · exact hb
      unfold nu
      rw [a1, a2]
      simp [nuo, ht]
    · intro _ ht _
      refine .inr ⟨rfl, ?_⟩
      unfold nue
      rw [a1, a2]
      simp [ht]
  · -- cut
    obtain ⟨hh, htd⟩ := hidle (by omega)
    subst hh
    subst htd
    obtain ⟨c, rfl⟩ := hok.has (by simp)
    have hcm : c ∈ m.cells := hok.at_ c rfl
    have hx := h.pos c hcm
    by_cases ht : m.top = some c
    · have e : stp m ⟨5, some c, false, 0⟩ = ({ m with top := m.below c }, ⟨4, some c, true, 1⟩, true) := by simp [stp, ht]
      rw [e] at hstk hL' ⊢
      have hw0 : wfin { m with top := m.below c } ⟨some i, [], false, false⟩ ⟨4, some c, true, 1⟩ seen = (⟨none, if 1 < m.item c then [m.item c / 2, m.item c - m.item c / 2] else [], true, false⟩, seen ++ [m.item c]) := by simp [wfin]
      dsimp only at hstk hL' ⊢
      rw [hw0]
      dsimp only
      obtain ⟨c', L1, hc', rfl⟩ := hcut rfl rfl ht
      injection hc' with hc'
      subst hc'
      have es : stkStep m ⟨5, some c, false, 0⟩ (c :: L1) = L1 := by simp [stkStep, ht]
      rw [es] at hL'
      refine ⟨p - 1, h.after hk rfl hstk rfl rfl hL hL' ⟨(fun e => by cases e), fun _ => rfl, ?_, fun j hj => by cases hj⟩ (.inr rfl) (fun e => e) ?_ ?_ ?_ ?_, .inl rfl⟩
      · intro x hx'
        dsimp only at hx'
        split at hx'
        · rename_i h1
          simp at hx'
          rcases hx' with rfl | rfl <;> omega
        · cases hx'
      · rw [v1, v3]
        by_cases h1 : 1 < m.item c <;> simp [opv, oPd, h1] <;> omega
      · rw [v1, v3]
        by_cases h1 : 1 < m.item c <;> simp [opv, oCnt, h1] <;> omega
      · rw [v1, v3]
        by_cases h1 : 1 < m.item c
        · have : m.item c ≠ 1 := by omega
          simp [opv, oOne, h1, List.count_append, this]
          omega
        · have : m.item c = 1 := by omega
          simp [opv, oOne, List.count_append, this]
          omega
      · rw [v1, v3]
        by_cases h1 : 1 < m.item c <;> simp [opv, oP, h1] <;> omega
    · have e : stp m ⟨5, some c, false, 0⟩ = (m, ⟨4, some c, false, 0⟩, false) := by simp [stp, ht]
      rw [e] at hstk hL' ⊢
      have hw0 : wfin m ⟨some i, [], false, false⟩ ⟨4, some c, false, 0⟩ seen = (⟨some i, [], false, false⟩, seen) := rfl
      dsimp only at hstk hL' ⊢
      rw [hw0]
      dsimp only
      obtain ⟨q1, q2, q3⟩ := h.others (m' := m) (o := o) (s' := ⟨4, some c, false, 0⟩) hk rfl rfl (fun _ _ _ _ _ _ => rfl)
      have es : stkStep m ⟨5, some c, false, 0⟩ L = L := by simp [stkStep, ht]
      rw [es] at hL'
      refine ⟨p, h.after hk rfl hstk rfl rfl hL hL' (wk _ _ rfl (fun e => by dsimp only at e; omega) (fun _ => ⟨rfl, rfl⟩)) (.inl rfl) (fun e => e) ?_ ?_ ?_ ?_, .inr ⟨rfl, rfl, rfl, q1, q2, q3, ?_, ?_, ?_, fun _ => rfl⟩⟩
      · rw [v1, v2]; simp [opv]
      · rw [v1, v2]; simp [opv]
      · rw [v1, v2]; simp [opv]
      · rw [v1, v2]; simp [opv]
      · unfold busyB
        rw [a1, a2]
        simp
      · intro _
        unfold nu
        rw [a1, a2]
        simp [nuo, ht]
      · intro _ _ _
        refine .inr ⟨rfl, ?_⟩
        unfold nue
        rw [a1, a2]
        simp
  · -- count
    obtain ⟨hh, htd⟩ := hidle (by omega)
    subst hh
    subst htd
    have e : stp m ⟨6, at_, false, 0⟩ = (m, ⟨6, at_, true, if m.pd = 0 then 3 else 2⟩, true) := rfl
    rw [e] at hstk hL' ⊢
    have hw0 : wfin m ⟨some i, [], false, false⟩ ⟨6, at_, true, if m.pd = 0 then 3 else 2⟩ seen = (⟨none, [], false, decide (m.pd = 0)⟩, seen) := by
      by_cases hp : m.pd = 0 <;> simp [wfin, hp]
    dsimp only at hstk hL' ⊢
    rw [hw0]
    dsimp only
    obtain ⟨q1, q2, q3⟩ := h.others (m' := m) (o := o) (s' := ⟨6, at_, true, if m.pd = 0 then 3 else 2⟩) hk rfl rfl (fun _ _ _ _ _ _ => rfl)
    refine ⟨p, h.after hk rfl hstk rfl rfl hL (by simpa [stkStep] using hL') ⟨fun e => ⟨rfl, rfl, rfl, by simpa using e⟩, by simp, by simp, fun j hj => by cases hj⟩ (.inr rfl) (fun e => e) ?_ ?_ ?_ ?_, .inr ⟨rfl, rfl, rfl, q1, q2, q3, ?_, ?_, ?_, ?_⟩⟩
    · rw [v1, v3]; simp [opv]
    · rw [v1, v3]; simp [opv]
    · rw [v1, v3]; simp [opv]
    · rw [v1, v3]; simp [opv]
    · unfold busyB
      rw [a1, a3]
      simp
    · intro _
      unfold nu
      rw [a1, a3]
      simp [nuo, busyB, a3]
    · intro _ _ hp
      exact .inl (by simpa using hp)
    · intro hp
      simpa using hp
  · -- report
    obtain ⟨hh, htd⟩ := hidle (by omega)
    subst hh
    subst htd
    have e : stp m ⟨7, at_, false, 0⟩ = ({ m with pd := m.pd + -1 }, ⟨7, at_, true, 0⟩, true) := rfl
    rw [e] at hstk hL' ⊢
    have hw0 : wfin { m with pd := m.pd + -1 } ⟨some i, [], false, false⟩ ⟨7, at_, true, 0⟩ seen = (⟨none, [], false, false⟩, seen) := by simp [wfin]
    dsimp only at hstk hL' ⊢
    rw [hw0]
    dsimp only
    have hpd : 1 ≤ m.pd := by
      have h1 := v1 oPd
      simp [opv, oPd] at h1
      simp only [oPd] at howe
      omega
    refine ⟨p - 1, h.after hk rfl hstk rfl rfl hL (by simpa [stkStep] using hL') ⟨(fun e => by cases e), by simp, by simp, fun j hj => by cases hj⟩ (.inr rfl) (fun e => by omega) ?_ ?_ ?_ ?_, .inl rfl⟩
    all_goals
      rw [v1, v3]
      simp [opv, oPd, oCnt, oOne, oP]
      try omega

/-- A worker begins its next operation. -/
theorem Inv.nx (h : Inv n p m ops ws seen) (hk : ws[k]? = some w) (hix : w.ix = none) (hen : w.ended = false) {c : Nat} (hc : c ∉ m.cells) :
    Inv n p (wnext m ops c o w).1 (wnext m ops c o w).2.1 (ws.set k (wnext m ops c o w).2.2) seen ∧ Quiet m ops ws k w (wnext m ops c o w).1 (wnext m ops c o w).2.1 (wnext m ops c o w).2.2 := by
  have hw : w ∈ ws := List.mem_of_getElem? hk
  have hkl : k < ws.length := (List.getElem?_eq_some_iff.1 hk).1
  have hwk := h.wok w hw
  have hne : ∀ d ∈ m.cells, d ≠ c := fun d hd e => hc (e ▸ hd)
  obtain ⟨L, hL, e1, e2, e3, e4⟩ := h.ex
  have hLm := h.inL hL
  -- what all three ways have in common
  have key : ∀ (m' : Mem Int) (s' : OpS) (w' : CW), Stk m' (ops ++ [(o, s')]) → m'.top = m.top → m'.pd = m.pd → (∀ d ∈ m.cells, m'.item d = m.item d ∧ m'.below d = m.below d) → (∀ d ∈ m.cells, d ∈ m'.cells) → (∀ d ∈ m'.cells, 1 ≤ m'.item d) → w'.ix = some ops.length → w'.ended = false →
      (∀ x ∈ w'.todo, 1 ≤ x) → (w'.todo ≠ [] → w'.having = true) → s'.fin = false → (s'.pc ≤ 3 → w'.having = true) → (4 ≤ s'.pc → w'.having = false ∧ w'.todo = []) → (∀ Ω, wkv Ω m' (ops ++ [(o, s')]) w' = wkv Ω m ops w) →
      Inv n p m' (ops ++ [(o, s')]) (ws.set k w') seen ∧ (∀ j v, j ≠ k → ws[j]? = some v → opAt (ops ++ [(o, s')]) v = opAt ops v) ∧ (∀ j v, j ≠ k → ws[j]? = some v → nu m' (ops ++ [(o, s')]) v = nu m ops v) := by
    intro m' s' w' k1 k2 k3 k4 k5 k6 k7 k8 k9 k10 k11 k12 k13 k14
    have hlt : ∀ (j i' : Nat) (v : CW), ws[j]? = some v → v.ix = some i' → i' < ops.length ∧ ∃ o' t, ops[i']? = some (o', t) ∧ t.fin = false := fun j i' v hj hv => by
      obtain ⟨o', t, ht, hf, _⟩ := (h.wok v (List.mem_of_getElem? hj)).op i' hv
      exact ⟨(List.getElem?_eq_some_iff.1 ht).1, o', t, ht, hf⟩
    have hopAt : ∀ j v, j ≠ k → ws[j]? = some v → opAt (ops ++ [(o, s')]) v = opAt ops v := fun j v hj hv => by
      unfold opAt
      cases hv' : v.ix with
      | none => rfl
      | some i' =>
        simp only [Option.bind_some]
        rw [List.getElem?_append_left (hlt j i' v hv hv').1]
    have hch : Chain m' m'.top L := by
      rw [k2]
      exact hL.keep (fun d hd => (k4 d (hLm d hd)).2) k5
    have htot : ∀ Ω, Tot Ω m' (ops ++ [(o, s')]) L (ws.set k w') = Tot Ω m ops L ws := fun Ω => by
      unfold Tot
      rw [sum_set (f := wkv Ω m ops) (f' := wkv Ω m' (ops ++ [(o, s')])) hk ?_, k14]
      · have : (L.map fun c => Ω.stack (m'.item c)) = (L.map fun c => Ω.stack (m.item c)) := List.map_congr_left fun d hd => by rw [(k4 d (hLm d hd)).1]
        rw [this]
        omega
      · intro j v hj hv
        unfold wkv
        congr 1
        unfold ixv
        split
        · rfl
        · rename_i i' hi'
          obtain ⟨hl, o', t, ht, hf⟩ := hlt j i' v hv hi'
          rw [List.getElem?_append_left hl, ht]
          dsimp only
          have hok := h.stk.okO _ (List.mem_of_getElem? ht)
          have hpc := h.stk.pc _ (List.mem_of_getElem? ht)
          unfold opv
          dsimp only at hok hpc
          by_cases hp : t.pc ≤ 3
          · obtain ⟨d, hd⟩ := hok.has (by omega)
            rw [hd, Option.getD_some, (k4 d (hok.at_ d hd)).1]
          · have : ¬ t.pc = 1 := by omega
            simp [this, hp]
    refine ⟨⟨k1, k6, fun v hv => ?_, fun j j' a v v' hj hj' hv hv' => ?_, L, hch, by rw [htot, e1, k3], by rw [htot]; exact e2, by rw [htot]; exact e3, by rw [htot]; exact e4⟩, hopAt, fun j v hj hv => ?_⟩
    · obtain ⟨j, hj, rfl⟩ := List.mem_iff_getElem.1 hv
      rw [List.length_set] at hj
      rw [List.getElem_set]
      split
      · refine ⟨(fun e => by rw [k8] at e; cases e), k10, k9, fun i' hi' => ?_⟩
        rw [k7] at hi'
        obtain rfl : ops.length = i' := by simpa using hi'
        exact ⟨o, s', by simp, k11, k12, k13⟩
      · have hv := h.wok _ (List.getElem_mem hj)
        refine ⟨fun e => ⟨(hv.end_ e).1, (hv.end_ e).2.1, (hv.end_ e).2.2.1, by rw [k3]; exact (hv.end_ e).2.2.2⟩, hv.todo, hv.pos, fun i' hi' => ?_⟩
        obtain ⟨o', t, ht, rest⟩ := hv.op i' hi'
        exact ⟨o', t, by rw [List.getElem?_append_left (List.getElem?_eq_some_iff.1 ht).1]; exact ht, rest⟩
    · have kk : ∀ (j : Nat) (v : CW), (ws.set k w')[j]? = some v → v.ix = some a → (j = k ∧ a = ops.length) ∨ (j ≠ k ∧ ws[j]? = some v ∧ a < ops.length) := by
        intro j v hj hv
        by_cases hjk : k = j
        · subst hjk
          rw [List.getElem?_set_self hkl] at hj
          injection hj with hj
          subst hj
          rw [k7] at hv
          exact .inl ⟨rfl, by simpa using hv.symm⟩
        · rw [List.getElem?_set_ne hjk] at hj
          exact .inr ⟨fun e => hjk e.symm, hj, (hlt j a v hj hv).1⟩
      rcases kk j v hj hv with ⟨h1, h2⟩ | ⟨h1, h2, h3⟩ <;> rcases kk j' v' hj' hv' with ⟨h4, h5⟩ | ⟨h4, h5, h6⟩
      · omega
      · omega
      · omega
      · exact h.dist j j' a v v' h2 h5 hv hv'
    · unfold nu busyB
      rw [hopAt j v hj hv]
      cases he : opAt ops v with
      | none => rfl
      | some t =>
        dsimp only
        unfold nuo
        rw [k2]
        split <;> try rfl
        rename_i hp
        unfold opAt at he
        cases hv' : v.ix with
        | none => rw [hv'] at he; cases he
        | some i' =>
          rw [hv'] at he
          obtain ⟨hl, o', t', ht, hf⟩ := hlt j i' v hv hv'
          simp only [Option.bind_some, ht] at he
          simp at he
          subst he
          have hok := h.stk.okO _ (List.mem_of_getElem? ht)
          obtain ⟨d, hd⟩ := hok.has (by dsimp only; omega)
          dsimp only at hd
          rw [hd, Option.getD_some, (k4 d (hok.at_ d hd)).2]
  obtain ⟨ix, todo, having, ended⟩ := w
  dsimp only at hix hen
  subst hix
  subst hen
  have a0 : opAt ops ⟨none, todo, having, false⟩ = none := rfl
  have v0 : ∀ Ω, wkv Ω m ops ⟨none, todo, having, false⟩ = (todo.map Ω.todo).sum + (if having = true then Ω.hv else 0) := fun Ω => by simp [wkv, ixv]
  cases todo with
  | cons x r =>
    have hh : having = true := hwk.todo (by simp)
    subst hh
    have e : wnext m ops c o ⟨none, x :: r, true, false⟩ = (addCell m c x, ops ++ [(o, opPush c)], ⟨some ops.length, r, true, false⟩) := rfl
    rw [e]
    dsimp only
    have ap : opAt (ops ++ [(o, opPush c)]) ⟨some ops.length, r, true, false⟩ = some (opPush c) := by simp [opAt]
    obtain ⟨hI, hA, hN⟩ := key (addCell m c x) (opPush c) ⟨some ops.length, r, true, false⟩ (h.stk.push o c x hc) rfl rfl (fun d hd => ⟨upd_other _ _ (hne d hd), upd_other _ _ (hne d hd)⟩) (fun d hd => List.mem_append.2 (.inl hd))
      (fun d hd => by
        rcases List.mem_append.1 hd with hd | hd
        · show 1 ≤ upd m.item c x d
          rw [upd_other _ _ (hne d hd)]
          exact h.pos d hd
        · rw [List.mem_singleton] at hd
          subst hd
          show 1 ≤ upd m.item d x d
          rw [upd_same]
          exact hwk.pos x (by simp))
      rfl rfl (fun y hy => hwk.pos y (by simp [hy])) (fun _ => rfl) rfl (fun _ => rfl) (by simp [opPush]) (fun Ω => by
        rw [v0]
        simp [wkv, ixv, opv, opPush, addCell, upd]
        omega)
    refine ⟨hI, rfl, rfl, hN, fun j v hj hv => by unfold busyB; rw [hA j v hj hv], fun j v hj hv => by unfold nue; rw [hA j v hj hv], by simp [busyB], ?_, by simp [busyB], fun _ => rfl⟩
    intro _
    unfold nu
    rw [ap, a0]
    simp [nuo, opPush, busyB]
  | nil =>
    cases having with
    | true =>
      have e : wnext m ops c o ⟨none, [], true, false⟩ = (m, ops ++ [(o, opDone)], ⟨some ops.length, [], false, false⟩) := rfl
      rw [e]
      dsimp only
      have ap : opAt (ops ++ [(o, opDone)]) ⟨some ops.length, [], false, false⟩ = some opDone := by simp [opAt]
      obtain ⟨hI, hA, hN⟩ := key m opDone ⟨some ops.length, [], false, false⟩ (h.stk.more o (.inr rfl)) rfl rfl (fun d hd => ⟨rfl, rfl⟩) (fun d hd => hd) h.pos rfl rfl (by simp) (by simp) rfl (by simp [opDone]) (by simp) (fun Ω => by
        rw [v0]
        simp [wkv, ixv, opv, opDone])
      refine ⟨hI, rfl, rfl, hN, fun j v hj hv => by unfold busyB; rw [hA j v hj hv], fun j v hj hv => by unfold nue; rw [hA j v hj hv], ?_, ?_, by simp [busyB], fun _ => rfl⟩
      · unfold busyB
        rw [ap, a0]
        simp [opDone]
      · intro _
        unfold nu
        rw [ap, a0]
        simp [nuo, opDone, busyB]
    | false =>
      have e : wnext m ops c o ⟨none, [], false, false⟩ = (m, ops ++ [(o, opTake)], ⟨some ops.length, [], false, false⟩) := rfl
      rw [e]
      dsimp only
      have ap : opAt (ops ++ [(o, opTake)]) ⟨some ops.length, [], false, false⟩ = some opTake := by simp [opAt]
      obtain ⟨hI, hA, hN⟩ := key m opTake ⟨some ops.length, [], false, false⟩ (h.stk.more o (.inl rfl)) rfl rfl (fun d hd => ⟨rfl, rfl⟩) (fun d hd => hd) h.pos rfl rfl (by simp) (by simp) rfl (by simp [opTake]) (by simp) (fun Ω => by
        rw [v0]
        simp [wkv, ixv, opv, opTake])
      refine ⟨hI, rfl, rfl, hN, fun j v hj hv => by unfold busyB; rw [hA j v hj hv], fun j v hj hv => by unfold nue; rw [hA j v hj hv], ?_, ?_, ?_, fun _ => rfl⟩
      · unfold busyB
        rw [ap, a0]
        simp [opTake]
      · intro _
        unfold nu
        rw [ap, a0]
        simp [nuo, opTake, busyB, a0]
      · intro _ _ _
        refine .inr ⟨rfl, ?_⟩
        unfold nue
        rw [ap, a0]
        simp [opTake]
end

end Go.Proofs.Ytokdalilnckkoaa
