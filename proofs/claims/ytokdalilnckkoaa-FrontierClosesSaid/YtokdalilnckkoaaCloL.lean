/- FrontierCloses: all workers end in time. No program in sight. -/
import Derived.Test.YtokdalilnckkoaaCloS
namespace Go.Proofs.Ytokdalilnckkoaa
open Go.RowKit

/-- The k-th worker performs a step. -/
def WStep (m : Mem Int) (ops : List (Nat × OpS)) (ws : List CW) (seen : List Int) (k : Nat) (m' : Mem Int) (ops' : List (Nat × OpS)) (ws' : List CW) (seen' : List Int) : Prop :=
  ∃ w, ws[k]? = some w ∧
    ((w.ended = true ∧ m' = m ∧ ops' = ops ∧ ws' = ws ∧ seen' = seen) ∨
     (w.ended = false ∧ w.ix = none ∧ ∃ c o, c ∉ m.cells ∧ m' = (wnext m ops c o w).1 ∧ ops' = (wnext m ops c o w).2.1 ∧ ws' = ws.set k (wnext m ops c o w).2.2 ∧ seen' = seen) ∨
     (w.ended = false ∧ ∃ i o s, w.ix = some i ∧ ops[i]? = some (o, s) ∧ m' = (stp m s).1 ∧ ops' = ops.set i (o, (stp m s).2.1) ∧ ws' = ws.set k (wfin (stp m s).1 w (stp m s).2.1 seen).1 ∧ seen' = (wfin (stp m s).1 w (stp m s).2.1 seen).2))

section
variable {m m' : Mem Int} {ops ops' : List (Nat × OpS)} {ws ws' : List CW} {n p p' : Int} {seen seen' : List Int} {k : Nat}
theorem Inv.step (h : Inv n p m ops ws seen) (hs : WStep m ops ws seen k m' ops' ws' seen') :
    ws'.length = ws.length ∧ ∃ p', Inv n p' m' ops' ws' seen' ∧ (p' = p - 1 ∨ (p' = p ∧ ∃ w w', ws[k]? = some w ∧ ws' = ws.set k w' ∧ ((w.ended = true ∧ w' = w ∧ m' = m ∧ ops' = ops) ∨ (w.ended = false ∧ Quiet m ops ws k w m' ops' w')))) := by
  obtain ⟨w, hk, ⟨he, rfl, rfl, rfl, rfl⟩ | ⟨he, hx, c, o, hc, rfl, rfl, rfl, rfl⟩ | ⟨he, i, o, s, hx, hi, rfl, rfl, rfl, rfl⟩⟩ := hs
  · refine ⟨rfl, p, h, .inr ⟨rfl, w, w, hk, ?_, .inl ⟨he, rfl, rfl, rfl⟩⟩⟩
    obtain ⟨hl, e⟩ := List.getElem?_eq_some_iff.1 hk
    rw [← e, List.set_getElem_self hl]
  · obtain ⟨h1, h2⟩ := h.nx (o := o) hk hx he hc
    exact ⟨by simp, p, h1, .inr ⟨rfl, w, _, hk, rfl, .inr ⟨he, h2⟩⟩⟩
  · obtain ⟨p', h1, h2⟩ := h.st hk hx hi
    refine ⟨by simp, p', h1, ?_⟩
    rcases h2 with h2 | ⟨h2, h3⟩
    · exact .inl h2
    · exact .inr ⟨h2, w, _, hk, rfl, .inr ⟨he, h3⟩⟩

theorem Inv.nonneg (h : Inv n p m ops ws seen) : 0 ≤ p := by
  obtain ⟨L, hL, _, _, _, e4⟩ := h.ex
  have := h.parts oP_ok hL
  unfold Tot at e4
  omega

/-- Nothing is left to do. -/
theorem Inv.zero (h : Inv n p m ops ws seen) (hp : p = 0) : m.top = none ∧ m.pd = 0 ∧ (∀ w ∈ ws, busyB ops w = false) ∧ (seen.length : Int) = 2 * n - 1 ∧ (seen.count 1 : Int) = n := by
  obtain ⟨L, hL, e1, e2, e3, e4⟩ := h.ex
  obtain ⟨h1, h2⟩ := h.parts oP_ok hL
  unfold Tot at e1 e2 e3 e4
  have hL0 : L = [] := by
    cases L with
    | nil => rfl
    | cons c L =>
      exfalso
      have hz := sum_zero (l := (c :: L).map fun c => oP.stack (m.item c)) (fun x hx => by
        obtain ⟨d, hd, rfl⟩ := List.mem_map.1 hx
        exact oP_ok.stack _ (h.pos d (h.inL hL d hd))) (by omega) (oP.stack (m.item c)) (by simp)
      have := h.pos c (h.inL hL c (by simp))
      simp only [oP] at hz
      omega
  have hw0 : ∀ w ∈ ws, w.todo = [] ∧ w.having = false ∧ ∀ i, w.ix = some i → ∃ o s, ops[i]? = some (o, s) ∧ 4 ≤ s.pc ∧ s.pc ≠ 7 := by
    intro w hw
    have hz : wkv oP m ops w = 0 := sum_zero (l := ws.map (wkv oP m ops)) (fun x hx => by
      obtain ⟨v, hv, rfl⟩ := List.mem_map.1 hx
      exact (h.wv oP_ok hv).2.2) (by omega) _ (List.mem_map.2 ⟨w, hw, rfl⟩)
    obtain ⟨q1, q2, _⟩ := h.wv oP_ok hw
    have hhv : w.having = false := by
      cases hh : w.having with
      | false => rfl
      | true =>
        unfold wkv at hz
        rw [hh] at hz
        simp only [if_true] at hz
        have : oP.hv = 1 := rfl
        omega
    have htd : w.todo = [] := by
      cases ht : w.todo with
      | nil => rfl
      | cons x r =>
        have := (h.wok w hw).todo (by rw [ht]; simp)
        rw [hhv] at this
        cases this
    refine ⟨htd, hhv, fun i hi => ?_⟩
    obtain ⟨o, s, hs, hf, ha, hb⟩ := (h.wok w hw).op i hi
    have hpc : ¬ s.pc ≤ 3 := fun e => by have := ha e; rw [hhv] at this; cases this
    refine ⟨o, s, hs, by omega, fun e7 => ?_⟩
    unfold wkv at hz
    rw [hhv, htd, hi, ixv_at hs] at hz
    simp [opv, hf, e7, oP] at hz
  have hk : ∀ Ω, (ws.map (wkv Ω m ops)).sum = 0 := fun Ω => by
    have : ws.map (wkv Ω m ops) = ws.map fun _ => (0 : Int) := List.map_congr_left fun w hw => by
      obtain ⟨q1, q2, q3⟩ := hw0 w hw
      unfold wkv
      rw [q1, q2]
      cases hi : w.ix with
      | none => simp [ixv]
      | some i =>
        obtain ⟨o, s, hs, hp4, hp7⟩ := q3 i hi
        rw [ixv_at hs]
        have e1' : ¬ s.pc = 1 := by omega
        have e3' : ¬ s.pc ≤ 3 := by omega
        simp [opv, e1', e3', hp7]
    rw [this]
    generalize ws = l
    induction l with
    | nil => rfl
    | cons a l ih => simpa using ih
  subst hL0
  rw [hk] at e1 e2 e3
  refine ⟨hL, by simpa using e1.symm, fun w hw => ?_, by simpa using e2, by simpa using e3⟩
  obtain ⟨q1, q2, q3⟩ := hw0 w hw
  unfold busyB
  rw [q2]
  cases hi : w.ix with
  | none => simp [opAt, hi]
  | some i =>
    obtain ⟨o, s, hs, hp4, hp7⟩ := q3 i hi
    rw [opAt_at hi hs]
    simp [hp7]

/-- Nothing is pending: nothing is left to do. -/
theorem Inv.pdz (h : Inv n p m ops ws seen) (hp : m.pd = 0) : p = 0 := by
  obtain ⟨L, hL, e1, _, _, e4⟩ := h.ex
  obtain ⟨h1, h2⟩ := h.parts oPd_ok hL
  unfold Tot at e1 e4
  have hL0 : L = [] := by
    cases L with
    | nil => rfl
    | cons c L =>
      exfalso
      have hz := sum_zero (l := (c :: L).map fun c => oPd.stack (m.item c)) (fun x hx => by
        obtain ⟨d, hd, rfl⟩ := List.mem_map.1 hx
        exact oPd_ok.stack _ (h.pos d (h.inL hL d hd))) (by omega) (oPd.stack (m.item c)) (by simp)
      simp [oPd] at hz
  subst hL0
  have : ws.map (wkv oP m ops) = ws.map fun _ => (0 : Int) := List.map_congr_left fun w hw => by
    have hz : wkv oPd m ops w = 0 := sum_zero (l := ws.map (wkv oPd m ops)) (fun x hx => by
      obtain ⟨v, hv, rfl⟩ := List.mem_map.1 hx
      exact (h.wv oPd_ok hv).2.2) (by omega) _ (List.mem_map.2 ⟨w, hw, rfl⟩)
    obtain ⟨q1, q2, _⟩ := h.wv oPd_ok hw
    have hhv : w.having = false := by
      cases hh : w.having with
      | false => rfl
      | true =>
        unfold wkv at hz
        rw [hh] at hz
        simp only [if_true] at hz
        have : oPd.hv = 1 := rfl
        omega
    have htd : w.todo = [] := by
      cases ht : w.todo with
      | nil => rfl
      | cons x r =>
        have := (h.wok w hw).todo (by rw [ht]; simp)
        rw [hhv] at this
        cases this
    unfold wkv at hz ⊢
    rw [hhv, htd] at hz ⊢
    cases hi : w.ix with
    | none => simp [ixv]
    | some i =>
      obtain ⟨o, s, hs, hf, ha, hb⟩ := (h.wok w hw).op i hi
      have hpc : ¬ s.pc ≤ 3 := fun e => by have := ha e; rw [hhv] at this; cases this
      have e1' : ¬ s.pc = 1 := by omega
      rw [hi, ixv_at hs] at hz
      rw [ixv_at hs]
      by_cases h7 : s.pc = 7
      · simp [opv, hf, h7, oPd] at hz
      · simp [opv, e1', hpc, h7]
  rw [this] at e4
  rw [← e4]
  generalize ws = l
  induction l with
  | nil => rfl
  | cons a l ih => simpa using ih

/-- An ended worker: nothing is left to do. -/
theorem Inv.endz (h : Inv n p m ops ws seen) {w : CW} (hw : w ∈ ws) (he : w.ended = true) : p = 0 := h.pdz ((h.wok w hw).end_ he).2.2.2

def dist (N i k : Nat) : Nat := if i % N ≤ k then k - i % N else k + N - i % N
theorem mod_succ (N i : Nat) (hN : 0 < N) : (i + 1) % N = if i % N + 1 = N then 0 else i % N + 1 := by
  have h1 := Nat.mod_lt i hN
  have h2 := Nat.div_add_mod i N
  split
  · rename_i e
    have : i + 1 = N * (i / N + 1) := by rw [Nat.mul_add, Nat.mul_one]; omega
    rw [this, Nat.mul_mod_right]
  · have : i + 1 = i % N + 1 + N * (i / N) := by omega
    rw [this, Nat.add_mul_mod_self_left, Nat.mod_eq_of_lt (by omega)]
theorem dist_lt {N k : Nat} (i : Nat) (hk : k < N) : dist N i k < N := by
  have := Nat.mod_lt i (show 0 < N by omega)
  unfold dist
  split <;> omega
theorem dist_next {N i k : Nat} (hk : k < N) (hne : i % N ≠ k) : dist N (i + 1) k + 1 = dist N i k := by
  have h0 := Nat.mod_lt i (show 0 < N by omega)
  unfold dist
  rw [mod_succ N i (by omega)]
  generalize i % N = r at *
  split <;> split <;> split <;> omega
theorem dist_own {N i k : Nat} (hk : k < N) (he : i % N = k) : dist N i k = 0 ∧ dist N (i + 1) k + 1 = N := by
  unfold dist
  rw [mod_succ N i (by omega), he]
  constructor
  · simp
  · split <;> split <;> omega

/-- Where an event can come from. -/
def Prog (m : Mem Int) (ops : List (Nat × OpS)) (ws : List CW) (w : CW) : Prop := w.ended = false ∧ (busyB ops w = true ∨ (m.top ≠ none ∧ ∀ v ∈ ws, busyB ops v = false))

theorem nu_pos (h : Inv n p m ops ws seen) {w : CW} (hw : w ∈ ws) : 1 ≤ nu m ops w ∧ nu m ops w ≤ 4 ∧ nue ops w ≤ 3 := by
  unfold nu nue
  cases he : opAt ops w with
  | none =>
    dsimp only
    split <;> omega
  | some s =>
    dsimp only
    have hpc : 1 ≤ s.pc ∧ s.pc ≤ 7 := by
      unfold opAt at he
      cases hx : w.ix with
      | none => rw [hx] at he; cases he
      | some i =>
        obtain ⟨o, t, ht, _⟩ := (h.wok w hw).op i hx
        rw [hx] at he
        simp [ht] at he
        rw [← he]
        exact h.stk.pc _ (List.mem_of_getElem? ht)
    unfold nuo
    refine ⟨?_, ?_, ?_⟩
    · split <;> first | omega | (split <;> omega)
    · split <;> first | omega | (split <;> omega)
    · split <;> omega

theorem nue_pos (h : Inv n p m ops ws seen) (hp : p = 0) {w : CW} (hw : w ∈ ws) : 1 ≤ nue ops w := by
  have hb := (h.zero hp).2.2.1 w hw
  unfold busyB at hb
  rw [Bool.or_eq_false_iff] at hb
  unfold nue
  cases hx : w.ix with
  | none => simp [opAt, hx]
  | some i =>
    obtain ⟨o, t, ht, _, ha, _⟩ := (h.wok w hw).op i hx
    have hpc := h.stk.pc _ (List.mem_of_getElem? ht)
    have h2 := hb.2
    rw [opAt_at hx ht] at h2 ⊢
    dsimp only at h2 hpc ⊢
    have h7 : ¬ t.pc = 7 := by simpa using h2
    have h3 : ¬ t.pc ≤ 3 := fun e => by have := ha e; rw [hb.1] at this; cases this
    obtain e | e | e : t.pc = 4 ∨ t.pc = 5 ∨ t.pc = 6 := by omega
    all_goals rw [e]; simp

/-- Something is left to do: some worker can do it. -/
theorem Inv.prog (h : Inv n p m ops ws seen) (hp : p ≠ 0) (hN : 0 < ws.length) : ∃ (k : Nat) (w : CW), ws[k]? = some w ∧ Prog m ops ws w := by
  have hnend : ∀ w ∈ ws, w.ended = false := fun w hw => by
    cases he : w.ended with
    | false => rfl
    | true => exact absurd (h.endz hw he) hp
  by_cases hb : ∃ w ∈ ws, busyB ops w = true
  · obtain ⟨w, hw, hbw⟩ := hb
    obtain ⟨k, hk, rfl⟩ := List.mem_iff_getElem.1 hw
    exact ⟨k, _, List.getElem?_eq_getElem hk, hnend _ hw, .inl hbw⟩
  · have hb' : ∀ w ∈ ws, busyB ops w = false := fun w hw => by
      cases hh : busyB ops w with
      | false => rfl
      | true => exact absurd ⟨w, hw, hh⟩ hb
    refine ⟨0, ws[0], List.getElem?_eq_getElem hN, hnend _ (List.getElem_mem hN), .inr ⟨fun ht => hp ?_, hb'⟩⟩
    obtain ⟨L, hL, _, _, _, e4⟩ := h.ex
    rw [ht] at hL
    have hL0 : L = [] := by
      cases L with
      | nil => rfl
      | cons c L => cases hL.1
    subst hL0
    unfold Tot at e4
    have : ws.map (wkv oP m ops) = ws.map fun _ => (0 : Int) := List.map_congr_left fun w hw => by
      have hbw := hb' w hw
      unfold busyB at hbw
      rw [Bool.or_eq_false_iff] at hbw
      have hhv := hbw.1
      have htd : w.todo = [] := by
        cases ht : w.todo with
        | nil => rfl
        | cons x r =>
          have := (h.wok w hw).todo (by rw [ht]; simp)
          rw [hhv] at this
          cases this
      unfold wkv
      rw [hhv, htd]
      cases hi : w.ix with
      | none => simp [ixv]
      | some i =>
        obtain ⟨o, s, hs, hf, ha, _⟩ := (h.wok w hw).op i hi
        have hpc : ¬ s.pc ≤ 3 := fun e => by have := ha e; rw [hhv] at this; cases this
        have e1' : ¬ s.pc = 1 := by omega
        have h7 : ¬ s.pc = 7 := by
          have := hbw.2
          rw [opAt_at hi hs] at this
          simpa using this
        rw [ixv_at hs]
        simp [opv, e1', hpc, h7]
    rw [this] at e4
    rw [← e4]
    generalize ws = l
    induction l with
    | nil => rfl
    | cons a l ih => simpa using ih

def Live (p : Int) (m : Mem Int) (ops : List (Nat × OpS)) (ws : List CW) (i B : Nat) : Prop :=
  (p ≠ 0 ∧ ∃ (k : Nat) (w : CW), ws[k]? = some w ∧ Prog m ops ws w ∧ 4 * ws.length * p.toNat + (dist ws.length i k + ws.length * (nu m ops w - 1) + 1) + 4 * ws.length ≤ B) ∨
  (p = 0 ∧ ∀ (k : Nat) (w : CW), ws[k]? = some w → w.ended = true ∨ dist ws.length i k + ws.length * (nue ops w - 1) + 1 ≤ B)

theorem Live.mono {i B B' : Nat} (h : Live p m ops ws i B) (hB : B ≤ B') : Live p m ops ws i B' := by
  rcases h with ⟨h1, k, w, h2, h3, h4⟩ | ⟨h1, h2⟩
  · exact .inl ⟨h1, k, w, h2, h3, by omega⟩
  · exact .inr ⟨h1, fun k w hk => (h2 k w hk).elim .inl fun e => .inr (by omega)⟩

theorem Inv.live (h : Inv n p m ops ws seen) (hN : 0 < ws.length) (i : Nat) : Live p m ops ws i (4 * ws.length * p.toNat + 8 * ws.length) := by
  by_cases hp : p = 0
  · refine .inr ⟨hp, fun k w hk => .inr ?_⟩
    have h1 := (nu_pos h (List.mem_of_getElem? hk)).2.2
    have h2 := dist_lt i (List.getElem?_eq_some_iff.1 hk).1
    have h3 : ws.length * (nue ops w - 1) ≤ ws.length * 2 := Nat.mul_le_mul_left _ (by omega)
    omega
  · obtain ⟨k, w, hk, hpr⟩ := h.prog hp hN
    refine .inl ⟨hp, k, w, hk, hpr, ?_⟩
    have h1 := nu_pos h (List.mem_of_getElem? hk)
    have h2 := dist_lt i (List.getElem?_eq_some_iff.1 hk).1
    have h3 : ws.length * (nu m ops w - 1) ≤ ws.length * 3 := Nat.mul_le_mul_left _ (by omega)
    omega

theorem Live.done {i : Nat} (h : Live p m ops ws i 0) : p = 0 ∧ ∀ w ∈ ws, w.ended = true := by
  rcases h with ⟨_, k, w, _, _, h4⟩ | ⟨h1, h2⟩
  · omega
  · refine ⟨h1, fun w hw => ?_⟩
    obtain ⟨k, hk, rfl⟩ := List.mem_iff_getElem.1 hw
    rcases h2 k _ (List.getElem?_eq_getElem hk) with e | e
    · exact e
    · omega

theorem Live.step {i B : Nat} (h : Inv n p m ops ws seen) (hl : Live p m ops ws i (B + 1)) (hN : 0 < ws.length) (hs : WStep m ops ws seen (i % ws.length) m' ops' ws' seen') :
    ws'.length = ws.length ∧ ∃ p', p' ≤ p ∧ Inv n p' m' ops' ws' seen' ∧ Live p' m' ops' ws' (i + 1) B := by
  obtain ⟨hlen, p', hI, hc⟩ := h.step hs
  have hp0 := h.nonneg
  have hp0' := hI.nonneg
  have hlive := hI.live (by omega) (i + 1)
  refine ⟨hlen, p', by omega, hI, ?_⟩
  rcases hc with rfl | ⟨rfl, w, w', hk, rfl, hw⟩
  · -- an event
    rcases hl with ⟨hp, k, v, _, _, hb⟩ | ⟨hp, _⟩
    · refine hlive.mono ?_
      rw [hlen]
      have e : p.toNat = (p - 1).toNat + 1 := by omega
      rw [e, Nat.mul_add, Nat.mul_one] at hb
      omega
    · omega
  · have hil : i % ws.length < ws.length := Nat.mod_lt _ hN
    have hself : (ws.set (i % ws.length) w')[i % ws.length]? = some w' := List.getElem?_set_self hil
    rcases hl with ⟨hp, k, v, hv, hpr, hb⟩ | ⟨hp, hall⟩
    · -- nothing has happened: it comes nearer
      rcases hw with ⟨he, _⟩ | ⟨he, hq⟩
      · exact absurd (h.endz (List.mem_of_getElem? hk) he) hp
      have hpd : m.pd ≠ 0 := fun e => hp (h.pdz e)
      have hkl : k < ws.length := (List.getElem?_eq_some_iff.1 hv).1
      have hbusy : (∀ u ∈ ws, busyB ops u = false) → ∀ u ∈ ws.set (i % ws.length) w', busyB ops' u = false := fun hall u hu => by
        obtain ⟨j, hj, rfl⟩ := List.mem_iff_getElem.1 hu
        rw [List.length_set] at hj
        rw [List.getElem_set]
        split
        · rw [hq.own]
          exact hall w (List.mem_of_getElem? hk)
        · rename_i hne
          rw [hq.busy j _ (fun e => hne e.symm) (List.getElem?_eq_getElem hj)]
          exact hall _ (List.getElem_mem hj)
      by_cases hki : i % ws.length = k
      · subst hki
        rw [hk] at hv
        injection hv with hv
        subst hv
        have hd := dist_own hkl rfl
        have hless := hq.less (hpr.2.imp id fun e => e.1)
        have hn' := (nu_pos hI (List.mem_of_getElem? hself)).1
        refine .inl ⟨hp, i % ws.length, w', hself, ⟨hq.live hpd, ?_⟩, ?_⟩
        · rw [hq.own, hq.top]
          exact hpr.2.imp id fun e => ⟨e.1, hbusy e.2⟩
        · simp only [List.length_set] at *
          have h3 : ws.length * (nu m' ops' w' - 1) + ws.length ≤ ws.length * (nu m ops w - 1) := by
            have : ws.length * (nu m' ops' w' - 1) + ws.length = ws.length * (nu m' ops' w' - 1 + 1) := by rw [Nat.mul_add, Nat.mul_one]
            rw [this]
            exact Nat.mul_le_mul_left _ (by omega)
          rw [hd.1] at hb
          omega
      · have hv' : (ws.set (i % ws.length) w')[k]? = some v := by rw [List.getElem?_set_ne hki]; exact hv
        have hd := dist_next hkl hki
        refine .inl ⟨hp, k, v, hv', ⟨hpr.1, ?_⟩, ?_⟩
        · rw [hq.busy k v (fun e => hki e.symm) hv, hq.top]
          exact hpr.2.imp id fun e => ⟨e.1, hbusy e.2⟩
        · rw [hq.nu k v (fun e => hki e.symm) hv]
          simp only [List.length_set] at *
          omega
    · refine .inr ⟨hp, fun k v hv => ?_⟩
      rw [List.length_set] at *
      obtain ⟨z1, z2, z3, _⟩ := h.zero hp
      by_cases hki : i % ws.length = k
      · subst hki
        rw [hself] at hv
        injection hv with hv
        subst hv
        rcases hw with ⟨he, rfl, _, _⟩ | ⟨he, hq⟩
        · exact .inl he
        · rcases hall _ w hk with e | e
          · rw [he] at e; cases e
          · rcases hq.last (z3 w (List.mem_of_getElem? hk)) z1 z2 with e' | ⟨_, e'⟩
            · exact .inl e'
            · have hd := dist_own hil rfl
              refine .inr ?_
              have hz := nue_pos hI hp (List.mem_of_getElem? hself)
              · have h3 : ws.length * (nue ops' w' - 1) + ws.length ≤ ws.length * (nue ops w - 1) := by
                  have : ws.length * (nue ops' w' - 1) + ws.length = ws.length * (nue ops' w' - 1 + 1) := by rw [Nat.mul_add, Nat.mul_one]
                  rw [this]
                  exact Nat.mul_le_mul_left _ (by omega)
                rw [hd.1] at e
                omega
      · rw [List.getElem?_set_ne hki] at hv
        have hkl : k < ws.length := (List.getElem?_eq_some_iff.1 hv).1
        have hd := dist_next hkl hki
        rcases hall k v hv with e | e
        · exact .inl e
        · refine .inr ?_
          rcases hw with ⟨_, _, _, rfl⟩ | ⟨_, hq⟩
          · omega
          · rw [hq.nue k v (fun e => hki e.symm) hv]
            omega
end

end Go.Proofs.Ytokdalilnckkoaa
