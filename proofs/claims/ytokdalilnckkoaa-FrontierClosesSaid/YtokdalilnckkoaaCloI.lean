/- FrontierCloses: what holds of the workers, and that every step keeps it. No program in sight. -/
import Derived.Test.YtokdalilnckkoaaClo
namespace Go.Proofs.Ytokdalilnckkoaa
open Go.RowKit

def oPd : Om := ⟨fun _ => 1, fun _ => 0, fun _ => 1, 1⟩
def oCnt : Om := ⟨fun x => 2 * x - 1, fun x => 2 * x - 1, fun x => 2 * x - 1, 0⟩
def oOne : Om := ⟨fun x => x, fun x => x, fun x => x, 0⟩
def oP : Om := ⟨fun x => 8 * x - 6, fun x => 8 * x - 4, fun x => 8 * x - 5, 1⟩

structure WOk (m : Mem Int) (ops : List (Nat × OpS)) (w : CW) : Prop where
  end_ : w.ended = true → w.ix = none ∧ w.todo = [] ∧ w.having = false ∧ m.pd = 0
  todo : w.todo ≠ [] → w.having = true
  pos : ∀ x ∈ w.todo, 1 ≤ x
  op : ∀ i, w.ix = some i → ∃ o s, ops[i]? = some (o, s) ∧ s.fin = false ∧ (s.pc ≤ 3 → w.having = true) ∧ (4 ≤ s.pc → w.having = false ∧ w.todo = [])

structure Inv (n p : Int) (m : Mem Int) (ops : List (Nat × OpS)) (ws : List CW) (seen : List Int) : Prop where
  stk : Stk m ops
  pos : ∀ c ∈ m.cells, 1 ≤ m.item c
  wok : ∀ w ∈ ws, WOk m ops w
  dist : ∀ (j k i : Nat) (v w : CW), ws[j]? = some v → ws[k]? = some w → v.ix = some i → w.ix = some i → j = k
  ex : ∃ L, Chain m m.top L ∧ Tot oPd m ops L ws = m.pd ∧ Tot oCnt m ops L ws + seen.length = 2 * n - 1 ∧ Tot oOne m ops L ws + seen.count 1 = n ∧ Tot oP m ops L ws = p

/-- All counts are not negative. -/
structure OmOk (Ω : Om) : Prop where
  stack : ∀ x, 1 ≤ x → 0 ≤ Ω.stack x
  todo : ∀ x, 1 ≤ x → 0 ≤ Ω.todo x
  begun : ∀ x, 1 ≤ x → 0 ≤ Ω.begun x
  hv : 0 ≤ Ω.hv
theorem oPd_ok : OmOk oPd := ⟨fun _ _ => by simp [oPd], fun _ _ => by simp [oPd], fun _ _ => by simp [oPd], by simp [oPd]⟩
theorem oP_ok : OmOk oP := ⟨fun _ _ => by simp [oP]; omega, fun _ _ => by simp [oP]; omega, fun _ _ => by simp [oP]; omega, by simp [oP]⟩

section
variable {Ω : Om} {m m' : Mem Int} {ops ops' : List (Nat × OpS)} {ws : List CW} {n p p' : Int} {seen seen' : List Int} {i k o : Nat} {s s' : OpS} {w w' : CW} {L L' : List Nat}
theorem opv_nonneg (hΩ : OmOk Ω) (hpos : ∀ c ∈ m.cells, 1 ≤ m.item c) (hok : OkO m s) (hpc : 1 ≤ s.pc) : 0 ≤ opv Ω m s := by
  have key : s.pc = 1 ∨ s.pc = 2 ∨ s.pc = 3 → 1 ≤ m.item (s.at_.getD 0) := fun hh => by
    obtain ⟨c, hc⟩ := hok.has (by omega)
    rw [hc]
    exact hpos c (hok.at_ c hc)
  unfold opv
  split
  · omega
  · split
    · exact hΩ.todo _ (key (.inl ‹_›))
    · split
      · exact hΩ.begun _ (key (by omega))
      · split
        · exact hΩ.hv
        · omega
theorem Inv.wv (h : Inv n p m ops ws seen) (hΩ : OmOk Ω) (hw : w ∈ ws) : 0 ≤ (w.todo.map Ω.todo).sum ∧ 0 ≤ ixv Ω m ops w.ix ∧ 0 ≤ wkv Ω m ops w := by
  have h1 : 0 ≤ (w.todo.map Ω.todo).sum := sum_nonneg fun x hx => by
    obtain ⟨y, hy, rfl⟩ := List.mem_map.1 hx
    exact hΩ.todo y ((h.wok w hw).pos y hy)
  have h2 : 0 ≤ ixv Ω m ops w.ix := by
    unfold ixv
    split
    · omega
    · rename_i i _
      obtain ⟨o, s, hi, _⟩ := (h.wok w hw).op i ‹_›
      rw [hi]
      exact opv_nonneg hΩ h.pos (h.stk.okO _ (List.mem_of_getElem? hi)) (h.stk.pc _ (List.mem_of_getElem? hi)).1
  refine ⟨h1, h2, ?_⟩
  have := hΩ.hv
  unfold wkv
  split <;> omega
theorem Inv.inL (h : Inv n p m ops ws seen) (hL : Chain m m.top L) : ∀ c ∈ L, c ∈ m.cells := by
  have key : ∀ {q : Option Nat} {M : List Nat}, Chain m q M → ∀ c ∈ M, c ∈ m.cells := by
    intro q M
    induction M generalizing q with
    | nil => intro _ c hc; cases hc
    | cons d M ih =>
      intro hM c hc
      rcases List.mem_cons.1 hc with rfl | hc
      · exact hM.2.1
      · exact ih hM.2.2 c hc
  have _ := h
  exact key hL
theorem Inv.parts (h : Inv n p m ops ws seen) (hΩ : OmOk Ω) (hL : Chain m m.top L) : 0 ≤ (L.map fun c => Ω.stack (m.item c)).sum ∧ 0 ≤ (ws.map (wkv Ω m ops)).sum :=
  ⟨sum_nonneg fun x hx => by
    obtain ⟨c, hc, rfl⟩ := List.mem_map.1 hx
    exact hΩ.stack _ (h.pos c (h.inL hL c hc)),
   sum_nonneg fun x hx => by
    obtain ⟨v, hv, rfl⟩ := List.mem_map.1 hx
    exact (h.wv hΩ hv).2.2⟩
theorem sum_ge {f : CW → Int} : ∀ {ws : List CW}, (∀ v ∈ ws, 0 ≤ f v) → ∀ w ∈ ws, f w ≤ (ws.map f).sum
  | [], _, w, hw => by cases hw
  | a :: ws, h, w, hw => by
    have h0 := h a (by simp)
    have hs : 0 ≤ (ws.map f).sum := sum_nonneg fun x hx => by
      obtain ⟨v, hv, rfl⟩ := List.mem_map.1 hx
      exact h v (by simp [hv])
    simp only [List.map_cons, List.sum_cons]
    rcases List.mem_cons.1 hw with rfl | hw
    · omega
    · have := sum_ge (fun v hv => h v (by simp [hv])) w hw
      omega
/-- What a worker owes is pending. -/
theorem Inv.owes (h : Inv n p m ops ws seen) (hw : w ∈ ws) : wkv oPd m ops w ≤ m.pd := by
  obtain ⟨L, hL, h1, _⟩ := h.ex
  have h2 := (h.parts oPd_ok hL).1
  have h3 := sum_ge (fun v hv => (h.wv oPd_ok hv).2.2) w hw
  unfold Tot at h1
  omega

/-- How a step of an operation changes the totals. -/
theorem tot_st (hdist : ∀ (j k i : Nat) (v w : CW), ws[j]? = some v → ws[k]? = some w → v.ix = some i → w.ix = some i → j = k) (hk : ws[k]? = some w) (hix : w.ix = some i) (hitem : m'.item = m.item) :
    Tot Ω m' (ops.set i (o, s')) L' (ws.set k w') = Tot Ω m ops L ws + ((L'.map fun c => Ω.stack (m.item c)).sum - (L.map fun c => Ω.stack (m.item c)).sum) - wkv Ω m ops w + wkv Ω m' (ops.set i (o, s')) w' := by
  unfold Tot
  rw [hitem, sum_set (f := wkv Ω m ops) (f' := wkv Ω m' (ops.set i (o, s'))) hk ?_]
  · omega
  · intro j v hj hv
    unfold wkv
    congr 1
    unfold ixv
    split
    · rfl
    · rename_i i' hi'
      have hne : i ≠ i' := fun e => hj (hdist j k i v w hv hk (by rw [e]; exact hi') hix)
      rw [List.getElem?_set_ne hne]
      split
      · unfold opv
        rw [hitem]
      · rfl

theorem Inv.after (h : Inv n p m ops ws seen) (hk : ws[k]? = some w) (hix : w.ix = some i) (hstk : Stk m' (ops.set i (o, s'))) (hitem : m'.item = m.item) (hcells : m'.cells = m.cells) (hL : Chain m m.top L) (hL' : Chain m' m'.top L') (hw' : WOk m' (ops.set i (o, s')) w') (hix' : w'.ix = w.ix ∨ w'.ix = none) (hpd : m.pd = 0 → m'.pd = 0)
    (t1 : ((L'.map fun _ => (1 : Int)).sum - (L.map fun _ => (1 : Int)).sum) - wkv oPd m ops w + wkv oPd m' (ops.set i (o, s')) w' = m'.pd - m.pd)
    (t2 : ((L'.map fun c => 2 * m.item c - 1).sum - (L.map fun c => 2 * m.item c - 1).sum) - wkv oCnt m ops w + wkv oCnt m' (ops.set i (o, s')) w' = (seen.length : Int) - seen'.length)
    (t3 : ((L'.map fun c => m.item c).sum - (L.map fun c => m.item c).sum) - wkv oOne m ops w + wkv oOne m' (ops.set i (o, s')) w' = (seen.count 1 : Int) - seen'.count 1)
    (t4 : ((L'.map fun c => 8 * m.item c - 6).sum - (L.map fun c => 8 * m.item c - 6).sum) - wkv oP m ops w + wkv oP m' (ops.set i (o, s')) w' = p' - p) : Inv n p' m' (ops.set i (o, s')) (ws.set k w') seen' := by
  have hkl : k < ws.length := (List.getElem?_eq_some_iff.1 hk).1
  refine ⟨hstk, by rw [hcells, hitem]; exact h.pos, fun v hv => ?_, fun j j' a v v' hj hj' hv hv' => ?_, L', hL', ?_⟩
  · obtain ⟨j, hj, rfl⟩ := List.mem_iff_getElem.1 hv
    rw [List.length_set] at hj
    rw [List.getElem_set]
    split
    · exact hw'
    · rename_i hne
      have hj? : ws[j]? = some ws[j] := List.getElem?_eq_getElem hj
      have hv := h.wok _ (List.getElem_mem hj)
      refine ⟨fun e => ⟨(hv.end_ e).1, (hv.end_ e).2.1, (hv.end_ e).2.2.1, hpd (hv.end_ e).2.2.2⟩, hv.todo, hv.pos, fun i' hi' => ?_⟩
      have hne' : i ≠ i' := fun e => hne (h.dist k j i _ _ hk hj? hix (by rw [e]; exact hi'))
      rw [List.getElem?_set_ne hne']
      exact hv.op i' hi'
  · have key : ∀ (j a : Nat) (v : CW), (ws.set k w')[j]? = some v → v.ix = some a → ∃ v0, ws[j]? = some v0 ∧ v0.ix = some a := by
      intro j a v hj hv
      by_cases hjk : k = j
      · subst hjk
        rw [List.getElem?_set_self hkl] at hj
        injection hj with hj
        subst hj
        refine ⟨w, hk, ?_⟩
        rcases hix' with e | e
        · rw [← e]; exact hv
        · rw [e] at hv; cases hv
      · rw [List.getElem?_set_ne hjk] at hj
        exact ⟨v, hj, hv⟩
    obtain ⟨v0, h1, h2⟩ := key j a v hj hv
    obtain ⟨v1, h3, h4⟩ := key j' a v' hj' hv'
    exact h.dist j j' a v0 v1 h1 h3 h2 h4
  · obtain ⟨L0, hL0, e1, e2, e3, e4⟩ := h.ex
    obtain rfl := Chain.unique hL hL0
    have q := fun Ω => tot_st (Ω := Ω) (ops := ops) (m := m) (m' := m') (o := o) (s' := s') (L := L) (L' := L') (w' := w') h.dist hk hix hitem
    refine ⟨?_, ?_, ?_, ?_⟩
    · rw [q oPd, e1]
      have : oPd.stack = fun _ => 1 := rfl
      rw [this]
      dsimp only
      omega
    · rw [q oCnt]
      have : oCnt.stack = fun x => 2 * x - 1 := rfl
      rw [this]
      dsimp only
      omega
    · rw [q oOne]
      have : oOne.stack = fun x => x := rfl
      rw [this]
      dsimp only
      omega
    · rw [q oP, e4]
      have : oP.stack = fun x => 8 * x - 6 := rfl
      rw [this]
      dsimp only
      omega
end

end Go.Proofs.Ytokdalilnckkoaa
