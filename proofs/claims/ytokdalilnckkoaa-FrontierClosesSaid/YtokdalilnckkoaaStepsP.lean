/- The machine of the reference, and that it goes with the machine of the program: the plain law. -/
import Derived.Test.YtokdalilnckkoaaStk
namespace Go.Proofs.Ytokdalilnckkoaa
open Go.RowKit

structure ROp where
  kind : Int
  item : Int
  pc : Int
  cell : Int
  read : Int
  got : Int
  res : Int

structure RF where
  cells : List (Int × Int)
  top : Int
  pd : Int
  ops : List ROp

def rpush (f : RF) (o : ROp) : RF × ROp :=
  if o.pc = 1 then ({ f with pd := f.pd + 1, cells := f.cells ++ [(o.item, -1)] }, { o with cell := f.cells.length, pc := 2 }) else
  if o.pc = 2 then ({ f with cells := f.cells.set o.cell.toNat ((f.cells.getD o.cell.toNat (0, 0)).1, f.top) }, { o with read := f.top, pc := 3 }) else
  if f.top = o.read then ({ f with top := o.cell }, { o with pc := 0 }) else (f, { o with pc := 2 })
def rtake (f : RF) (o : ROp) : RF × ROp :=
  if o.pc = 1 then (f, { o with read := f.top, pc := if f.top < 0 then 3 else 2 }) else
  if o.pc = 2 then
    if f.top = o.read then ({ f with top := (f.cells.getD o.read.toNat (0, 0)).2 }, { o with got := (f.cells.getD o.read.toNat (0, 0)).1, res := 1, pc := 0 }) else (f, { o with pc := 1 })
  else (f, { o with res := if f.pd = 0 then 3 else 2, pc := 0 })
def rstp (f : RF) (o : ROp) : RF × ROp :=
  if o.pc = 0 then (f, o) else
  if o.kind = 1 then rpush f o else
  if o.kind = 2 then rtake f o else ({ f with pd := f.pd - 1 }, { o with pc := 0 })

/-- A pointer and the index of the cell that it leads to. -/
def Pos (idx : List Nat) (p : Option Nat) (i : Int) : Prop := (p = none ∧ i = -1) ∨ ∃ k c : Nat, i = (k : Int) ∧ p = some c ∧ idx[k]? = some c
theorem Pos.neg {idx : List Nat} {p : Option Nat} {i : Int} (h : Pos idx p i) : p = none ↔ i < 0 := by
  rcases h with ⟨rfl, rfl⟩ | ⟨k, c, rfl, rfl, _⟩
  · simp
  · simp
theorem Pos.more {idx : List Nat} {p : Option Nat} {i : Int} (h : Pos idx p i) (l : List Nat) : Pos (idx ++ l) p i := by
  rcases h with h | ⟨k, c, h1, h2, h3⟩
  · exact .inl h
  · exact .inr ⟨k, c, h1, h2, by rw [List.getElem?_append_left (List.getElem?_eq_some_iff.1 h3).1]; exact h3⟩
theorem Pos.same {idx : List Nat} (hn : idx.Nodup) {p q : Option Nat} {i j : Int} (h : Pos idx p i) (k : Pos idx q j) : p = q ↔ i = j := by
  rcases h with ⟨rfl, rfl⟩ | ⟨a, c, rfl, rfl, h3⟩ <;> rcases k with ⟨rfl, rfl⟩ | ⟨b, d, rfl, rfl, k3⟩
  · simp
  · simp
  · simp
  · obtain ⟨ha, e1⟩ := List.getElem?_eq_some_iff.1 h3
    obtain ⟨hb, e2⟩ := List.getElem?_eq_some_iff.1 k3
    constructor
    · intro e
      injection e with e
      subst e
      rw [nodup_inj hn (e1.trans e2.symm)]
    · intro e
      have : a = b := by omega
      subst this
      rw [h3] at k3
      injection k3 with k3
      rw [k3]

structure OpSim (m : Mem Int) (idx : List Nat) (s : OpS) (r : ROp) : Prop where
  fin : s.fin = decide (r.pc = 0)
  got : r.got = gotOfI m s
  res : r.res = s.res
  kind : (s.pc ≤ 3 ∧ r.kind = 1 ∧ ∃ c, s.at_ = some c ∧ r.item = m.item c ∧ (s.fin = false → r.pc = s.pc ∧ (s.pc = 1 → c ∉ idx ∧ m.below c = none) ∧ (s.pc ≠ 1 → ∃ k : Nat, r.cell = k ∧ idx[k]? = some c) ∧ (s.pc = 3 → Pos idx (m.below c) r.read)))
    ∨ (4 ≤ s.pc ∧ s.pc ≤ 6 ∧ r.kind = 2 ∧ (s.fin = false → r.pc = s.pc - 3 ∧ (s.pc = 5 → Pos idx s.at_ r.read)))
    ∨ (s.pc = 7 ∧ r.kind = 3 ∧ (s.fin = false → r.pc = 1))

theorem OpSim.keep {m m' : Mem Int} {idx idx' : List Nat} {s : OpS} {r : ROp} (h : OpSim m idx s r) (hw : s.res = 1 → ∃ c, s.at_ = some c) (hitem : ∀ c, s.at_ = some c → m'.item c = m.item c) (hpos : ∀ p i, Pos idx p i → Pos idx' p i) (hidx : ∀ (k c : Nat), idx[k]? = some c → idx'[k]? = some c)
    (hnew : ∀ c, s.pc ≤ 3 → s.at_ = some c → c ∉ idx → c ∉ idx') (hbel : ∀ c, s.pc ≤ 3 → s.at_ = some c → m'.below c = m.below c) : OpSim m' idx' s r := by
  refine ⟨h.fin, ?_, h.res, ?_⟩
  · rw [h.got]
    unfold gotOfI
    split
    · rename_i hh
      obtain ⟨c, hc⟩ := hw hh.2
      rw [hc, Option.getD_some, hitem c hc]
    · rfl
  · rcases h.kind with ⟨h1, h2, c, h3, h4, h5⟩ | ⟨h1, h2, h3, h4⟩ | h
    · refine .inl ⟨h1, h2, c, h3, by rw [hitem c h3]; exact h4, fun hf => ?_⟩
      obtain ⟨k1, k2, k3, k4⟩ := h5 hf
      refine ⟨k1, fun e => ⟨hnew c h1 h3 (k2 e).1, by rw [hbel c h1 h3]; exact (k2 e).2⟩, fun e => ?_, fun e => ?_⟩
      · obtain ⟨k, e1, e2⟩ := k3 e
        exact ⟨k, e1, hidx k c e2⟩
      · rw [hbel c h1 h3]
        exact hpos _ _ (k4 e)
    · exact .inr (.inl ⟨h1, h2, h3, fun hf => ⟨(h4 hf).1, fun e => hpos _ _ ((h4 hf).2 e)⟩⟩)
    · exact .inr (.inr h)

structure Sim (m : Mem Int) (ops : List (Nat × OpS)) (f : RF) (idx : List Nat) : Prop where
  nd : idx.Nodup
  sub : ∀ c ∈ idx, c ∈ m.cells
  len : f.cells.length = idx.length
  cell : ∀ (k c : Nat), idx[k]? = some c → ∃ nx, f.cells[k]? = some (m.item c, nx) ∧ Pos idx (m.below c) nx
  top : Pos idx m.top f.top
  pd : f.pd = m.pd
  olen : f.ops.length = ops.length
  op : ∀ (i o : Nat) (s : OpS) (r : ROp), ops[i]? = some (o, s) → f.ops[i]? = some r → OpSim m idx s r

theorem sim0 : Sim mem0I [] ⟨[], -1, 0, []⟩ [] := ⟨List.nodup_nil, fun c hc => (by cases hc), rfl, fun k c h => (by simp at h), .inl ⟨rfl, rfl⟩, rfl, rfl, fun i o s r h => (by simp at h)⟩

/-- A new operation. -/
theorem Sim.more {m : Mem Int} {ops : List (Nat × OpS)} {f : RF} {idx : List Nat} (h : Sim m ops f idx) (o : Nat) {s : OpS} {r : ROp} (hr : OpSim m idx s r) : Sim m (ops ++ [(o, s)]) { f with ops := f.ops ++ [r] } idx := by
  refine ⟨h.nd, h.sub, h.len, h.cell, h.top, h.pd, by simp [h.olen], fun i o' s' r' h1 h2 => ?_⟩
  rcases Nat.lt_or_ge i ops.length with hl | hl
  · rw [List.getElem?_append_left hl] at h1
    rw [List.getElem?_append_left (by rw [h.olen]; exact hl)] at h2
    exact h.op i o' s' r' h1 h2
  · rw [List.getElem?_append_right hl] at h1
    rw [List.getElem?_append_right (by rw [h.olen]; exact hl), h.olen] at h2
    have : i - ops.length = 0 := by
      rcases Nat.eq_zero_or_pos (i - ops.length) with e | e
      · exact e
      · rw [List.getElem?_eq_none (by simp; omega)] at h1; cases h1
    rw [this] at h1 h2
    simp at h1 h2
    rw [← h1.2, ← h2]
    exact hr

/-- A new cell that no operation of the reference knows yet. -/
theorem Sim.grow {m : Mem Int} {ops : List (Nat × OpS)} {f : RF} {idx : List Nat} (h : Sim m ops f idx) (hk : Stk m ops) {c : Nat} (x : Int) (hc : c ∉ m.cells) : Sim (addCell m c x) ops f idx := by
  have hne : ∀ d ∈ m.cells, d ≠ c := fun d hd e => hc (e ▸ hd)
  refine ⟨h.nd, fun d hd => List.mem_append.2 (.inl (h.sub d hd)), h.len, fun k d hd => ?_, h.top, h.pd, h.olen, fun i o s r h1 h2 => ?_⟩
  · have hm := hne d (h.sub d (List.mem_of_getElem? hd))
    obtain ⟨nx, e1, e2⟩ := h.cell k d hd
    refine ⟨nx, ?_, ?_⟩
    · show _ = some (upd m.item c x d, nx)
      rw [upd_other _ _ hm]
      exact e1
    · show Pos idx (upd m.below c none d) nx
      rw [upd_other _ _ hm]
      exact e2
  · have hok := hk.okO _ (List.mem_of_getElem? h1)
    exact (h.op i o s r h1 h2).keep hok.won (fun d hd => upd_other _ _ (hne d (hok.at_ d hd))) (fun _ _ hp => hp) (fun _ _ hp => hp) (fun _ _ _ hp => hp) (fun d _ hd => upd_other _ _ (hne d (hok.at_ d hd)))

/-- The pushes have cells of their own. -/
theorem Stk.apart {m : Mem Int} {ops : List (Nat × OpS)} (hk : Stk m ops) {i j o o' c : Nat} {s s' : OpS} (hi : ops[i]? = some (o, s)) (hj : ops[j]? = some (o', s')) (hp : s.pc ≤ 3) (hp' : s'.pc ≤ 3) (ha : s.at_ = some c) (ha' : s'.at_ = some c) : i = j :=
  fm_inj (f := pushF) (c := c) (by rw [hk.own]; exact hk.nd) hi hj (by simp [pushF, isPush, hp, ha]) (by simp [pushF, isPush, hp', ha'])

/-- What a step must show. -/
theorem Sim.after {m m' : Mem Int} {ops : List (Nat × OpS)} {f f' : RF} {idx idx' : List Nat} (h : Sim m ops f idx) (hk : Stk m ops) {i o : Nat} {s s' : OpS} {r' : ROp} (hi : ops[i]? = some (o, s))
    (hitem : m'.item = m.item) (hcells : m'.cells = m.cells) (hnd : idx'.Nodup) (hsub : ∀ c ∈ idx', c ∈ m.cells) (hlen : f'.cells.length = idx'.length) (hcell : ∀ (k c : Nat), idx'[k]? = some c → ∃ nx, f'.cells[k]? = some (m.item c, nx) ∧ Pos idx' (m'.below c) nx)
    (htop : Pos idx' m'.top f'.top) (hpd : f'.pd = m'.pd) (hop : OpSim m' idx' s' r') (hpos : ∀ p i, Pos idx p i → Pos idx' p i) (hidx : ∀ (k c : Nat), idx[k]? = some c → idx'[k]? = some c)
    (hnew : ∀ c, c ∉ idx → c ∈ idx' → s.pc ≤ 3 ∧ s.at_ = some c) (hbel : ∀ c, m'.below c = m.below c ∨ s.pc ≤ 3 ∧ s.at_ = some c) : Sim m' (ops.set i (o, s')) { f' with ops := f.ops.set i r' } idx' := by
  have hil : i < ops.length := (List.getElem?_eq_some_iff.1 hi).1
  refine ⟨hnd, by rw [hcells]; exact hsub, hlen, by rw [hitem]; exact hcell, htop, hpd, by simp [h.olen], fun j o' t r h1 h2 => ?_⟩
  by_cases hij : i = j
  · subst hij
    rw [List.getElem?_set_self hil] at h1
    have h2' : (f.ops.set i r')[i]? = some r := h2
    rw [List.getElem?_set_self (by rw [h.olen]; exact hil)] at h2'
    simp at h1 h2'
    rw [← h1.2, ← h2']
    exact hop
  · rw [List.getElem?_set_ne hij] at h1
    have h2' : (f.ops.set i r')[j]? = some r := h2
    rw [List.getElem?_set_ne hij] at h2'
    have hok := hk.okO _ (List.mem_of_getElem? h1)
    refine (h.op j o' t r h1 h2').keep hok.won (fun c _ => by rw [hitem]) hpos hidx (fun c hp ha hc hc' => ?_) (fun c hp ha => ?_)
    · obtain ⟨e1, e2⟩ := hnew c hc hc'
      exact hij (hk.apart hi h1 e1 hp e2 ha)
    · rcases hbel c with e | ⟨e1, e2⟩
      · exact e
      · exact absurd (hk.apart hi h1 e1 hp e2 ha) hij

/-- What the walk of the reference's step asks. -/
def ROk (f : RF) (o : ROp) : Prop := (o.kind = 1 → o.pc ≠ 0 → o.pc ≠ 1 → 0 ≤ o.cell ∧ o.cell < f.cells.length) ∧ (o.kind = 2 → o.pc = 2 → 0 ≤ o.read ∧ o.read < f.cells.length)

theorem Sim.ok {m : Mem Int} {ops : List (Nat × OpS)} {f : RF} {idx : List Nat} (h : Sim m ops f idx) (hk : Stk m ops) {i o : Nat} {s : OpS} {r : ROp} (hi : ops[i]? = some (o, s)) (hr : f.ops[i]? = some r) : ROk f r := by
  have hop := h.op i o s r hi hr
  have hfin := hop.fin
  have key : ∀ (k c : Nat), idx[k]? = some c → k < f.cells.length := fun k c e => by
    rw [h.len]
    exact (List.getElem?_eq_some_iff.1 e).1
  rcases hop.kind with ⟨h1, h2, c, h3, h4, h5⟩ | ⟨h1, h2, h3, h4⟩ | ⟨_, h2, _⟩
  · refine ⟨fun _ hp0 hp1 => ?_, fun e => by omega⟩
    have hf : s.fin = false := by rw [hfin]; simpa using hp0
    obtain ⟨k1, _, k3, _⟩ := h5 hf
    obtain ⟨k, e1, e2⟩ := k3 (by intro e; apply hp1; rw [k1, e]; rfl)
    have := key k c e2
    omega
  · refine ⟨fun e => by omega, fun _ hp => ?_⟩
    have hf : s.fin = false := by rw [hfin]; simp; omega
    obtain ⟨k1, k2⟩ := h4 hf
    have hs5 : s.pc = 5 := by omega
    obtain ⟨c, hc⟩ := (hk.okO _ (List.mem_of_getElem? hi)).has (by simp [hs5])
    rcases k2 hs5 with ⟨e, _⟩ | ⟨k, c', e1, e2, e3⟩
    · rw [hc] at e; cases e
    · have := key k c' e3
      omega
  · exact ⟨fun e => by omega, fun e => by omega⟩

theorem Sim.step {m : Mem Int} {ops : List (Nat × OpS)} {f : RF} {idx : List Nat} (h : Sim m ops f idx) (hk : Stk m ops) {i o : Nat} {s : OpS} {r : ROp} (hi : ops[i]? = some (o, s)) (hr : f.ops[i]? = some r) :
    (stp m s).2.2 = decide ((rstp f r).2.pc = 0) ∧ ∃ idx', Sim (stp m s).1 (ops.set i (o, (stp m s).2.1)) { (rstp f r).1 with ops := f.ops.set i (rstp f r).2 } idx' := by
  have hop := h.op i o s r hi hr
  have hok := hk.okO _ (List.mem_of_getElem? hi)
  have hpc := hk.pc _ (List.mem_of_getElem? hi)
  have hres := hk.res _ (List.mem_of_getElem? hi)
  have idp : ∀ p i, Pos idx p i → Pos idx p i := fun _ _ e => e
  have idi : ∀ (k c : Nat), idx[k]? = some c → idx[k]? = some c := fun _ _ e => e
  have idn : ∀ c, c ∉ idx → c ∈ idx → s.pc ≤ 3 ∧ s.at_ = some c := fun c h1 h2 => absurd h2 h1
  obtain ⟨pc, at_, fin, res⟩ := s
  obtain ⟨rk, ri, rpc, rc, rr, rg, rs⟩ := r
  obtain ⟨of, og, os, okd⟩ := hop
  dsimp only at of og os okd hpc hres idn
  have hz := hok.zero
  dsimp only at hz
  cases fin with
  | true =>
    have hp0 : rpc = 0 := by simpa using of.symm
    subst hp0
    have e1 : ops.set i (o, ⟨pc, at_, true, res⟩) = ops := set_back hi
    have e2 : f.ops.set i ⟨rk, ri, 0, rc, rr, rg, rs⟩ = f.ops := by
      obtain ⟨hl, e⟩ := List.getElem?_eq_some_iff.1 hr
      conv => rhs; rw [← List.set_getElem_self hl]
      rw [e]
    refine ⟨by simp [stp, rstp], idx, ?_⟩
    simp only [stp, rstp, if_true, e1, e2]
    exact h
  | false =>
    have hp0 : rpc ≠ 0 := by simpa using of.symm
    have hz := hz rfl
    subst hz
    have hg0 : ∀ m : Mem Int, ∀ q a, gotOfI m ⟨q, a, false, 0⟩ = 0 := fun m q a => by simp [gotOfI]
    rw [hg0] at og
    subst og
    subst os
    rcases okd with ⟨h1, rfl, c, rfl, rfl, h5⟩ | ⟨h1, h2, rfl, h4⟩ | ⟨rfl, rfl, h4⟩
    · obtain ⟨k1, k2, k3, k4⟩ := h5 rfl
      have hcm : c ∈ m.cells := hok.at_ c rfl
      have hb0 : ∀ d, m.below d = m.below d ∨ pc ≤ 3 ∧ some c = some d := fun _ => .inl rfl
      obtain rfl | rfl | rfl : pc = 1 ∨ pc = 2 ∨ pc = 3 := by omega
      · obtain rfl : rpc = 1 := by omega
        have hci : c ∉ idx := (k2 rfl).1
        have e1 : stp m ⟨1, some c, false, 0⟩ = ({ m with pd := m.pd + 1 }, ⟨2, some c, false, 0⟩, false) := rfl
        have e2 : rstp f ⟨1, m.item c, 1, rc, rr, 0, 0⟩ = ({ f with pd := f.pd + 1, cells := f.cells ++ [(m.item c, -1)] }, ⟨1, m.item c, 2, f.cells.length, rr, 0, 0⟩) := rfl
        rw [e1, e2]
        have hat : (idx ++ [c])[idx.length]? = some c := by simp
        have hmore : ∀ (k d : Nat), idx[k]? = some d → (idx ++ [c])[k]? = some d := fun k d e => by rw [List.getElem?_append_left (List.getElem?_eq_some_iff.1 e).1]; exact e
        have hbc : m.below c = none := (k2 rfl).2
        refine ⟨by simp, idx ++ [c], h.after hk hi rfl rfl ?_ ?_ ?_ ?_ (h.top.more _) (by simp [h.pd]) ⟨by simp, (hg0 _ _ _).symm, rfl, .inl ⟨by simp, rfl, c, rfl, rfl, fun _ => ⟨by simp, by simp, fun _ => ⟨idx.length, by simp [h.len], hat⟩, by simp⟩⟩⟩ (fun p i e => e.more _) hmore ?_ hb0⟩
        · rw [List.nodup_append]
          exact ⟨h.nd, by simp, fun a ha b hb e => hci (by rw [List.mem_singleton] at hb; rw [← hb, ← e]; exact ha)⟩
        · intro d hd
          rcases List.mem_append.1 hd with hd | hd
          · exact h.sub d hd
          · rw [List.mem_singleton] at hd
            rw [hd]; exact hcm
        · simp [h.len]
        · intro k d hd
          rcases Nat.lt_or_ge k idx.length with hl | hl
          · rw [List.getElem?_append_left hl] at hd
            obtain ⟨nx, e1, e2⟩ := h.cell k d hd
            exact ⟨nx, by rw [List.getElem?_append_left (by rw [h.len]; exact hl)]; exact e1, e2.more _⟩
          · rw [List.getElem?_append_right hl] at hd
            have : k - idx.length = 0 := by
              rcases Nat.eq_zero_or_pos (k - idx.length) with e | e
              · exact e
              · rw [List.getElem?_eq_none (by simp; omega)] at hd; cases hd
            rw [this] at hd
            simp at hd
            subst hd
            refine ⟨-1, ?_, ?_⟩
            · rw [List.getElem?_append_right (by rw [h.len]; exact hl), h.len, this]
              rfl
            · exact .inl ⟨hbc, rfl⟩
        · intro d hd hd'
          rcases List.mem_append.1 hd' with hd' | hd'
          · exact absurd hd' hd
          · rw [List.mem_singleton] at hd'
            exact ⟨by simp, by rw [hd']⟩
      · obtain rfl : rpc = 2 := by omega
        obtain ⟨k, rfl, hkc⟩ := k3 (by simp)
        obtain ⟨nx, e3, e4⟩ := h.cell k c hkc
        have hkl : k < f.cells.length := (List.getElem?_eq_some_iff.1 e3).1
        have e1 : stp m ⟨2, some c, false, 0⟩ = ({ m with below := upd m.below c m.top }, ⟨3, some c, false, 0⟩, false) := rfl
        have e2 : rstp f ⟨1, m.item c, 2, k, rr, 0, 0⟩ = ({ f with cells := f.cells.set k (m.item c, f.top) }, ⟨1, m.item c, 3, k, f.top, 0, 0⟩) := by
          simp [rstp, rpush, List.getD_eq_getElem?_getD, e3]
        rw [e1, e2]
        refine ⟨by simp, idx, h.after hk hi rfl rfl h.nd h.sub (by simp [h.len]) ?_ h.top h.pd ⟨by simp, (hg0 _ _ _).symm, rfl, .inl ⟨by simp, rfl, c, rfl, rfl, fun _ => ⟨by simp, by simp, fun _ => ⟨k, rfl, hkc⟩, fun _ => by dsimp only; rw [upd_same]; exact h.top⟩⟩⟩ idp idi idn ?_⟩
        · intro j d hd
          by_cases hdc : d = c
          · subst hdc
            obtain ⟨hj, e⟩ := List.getElem?_eq_some_iff.1 hd
            obtain ⟨hk', e'⟩ := List.getElem?_eq_some_iff.1 hkc
            obtain rfl : j = k := nodup_inj h.nd (e.trans e'.symm)
            exact ⟨f.top, by rw [List.getElem?_set_self hkl], by dsimp only; rw [upd_same]; exact h.top⟩
          · have hjk : k ≠ j := fun e => by
              subst e
              rw [hkc] at hd
              injection hd with hd
              exact hdc hd.symm
            obtain ⟨nx', e5, e6⟩ := h.cell j d hd
            exact ⟨nx', by rw [List.getElem?_set_ne hjk]; exact e5, by dsimp only; rw [upd_other _ _ hdc]; exact e6⟩
        · intro d
          by_cases hdc : d = c
          · exact .inr ⟨by simp, by rw [hdc]⟩
          · exact .inl (upd_other _ _ hdc)
      · obtain rfl : rpc = 3 := by omega
        obtain ⟨k, rfl, hkc⟩ := k3 (by simp)
        have hcmp := Pos.same h.nd h.top (k4 rfl)
        by_cases ht : m.top = m.below c
        · have ht' := hcmp.1 ht
          have e1 : stp m ⟨3, some c, false, 0⟩ = ({ m with top := some c }, ⟨2, some c, true, 0⟩, true) := by simp [stp, ht]
          have e2 : rstp f ⟨1, m.item c, 3, k, rr, 0, 0⟩ = ({ f with top := k }, ⟨1, m.item c, 0, k, rr, 0, 0⟩) := by simp [rstp, rpush, ht']
          rw [e1, e2]
          exact ⟨by simp, idx, h.after hk hi rfl rfl h.nd h.sub h.len h.cell (.inr ⟨k, c, rfl, rfl, hkc⟩) h.pd ⟨by simp, by simp [gotOfI], rfl, .inl ⟨by simp, rfl, c, rfl, rfl, fun e => by cases e⟩⟩ idp idi idn hb0⟩
        · have ht' : ¬ f.top = rr := fun e => ht (hcmp.2 e)
          have e1 : stp m ⟨3, some c, false, 0⟩ = (m, ⟨2, some c, false, 0⟩, false) := by simp [stp, ht]
          have e2 : rstp f ⟨1, m.item c, 3, k, rr, 0, 0⟩ = (f, ⟨1, m.item c, 2, k, rr, 0, 0⟩) := by simp [rstp, rpush, ht']
          rw [e1, e2]
          exact ⟨by simp, idx, h.after hk hi rfl rfl h.nd h.sub h.len h.cell h.top h.pd ⟨by simp, (hg0 _ _ _).symm, rfl, .inl ⟨by simp, rfl, c, rfl, rfl, fun _ => ⟨by simp, by simp, fun _ => ⟨k, rfl, hkc⟩, by simp⟩⟩⟩ idp idi idn hb0⟩
    · obtain ⟨k1, k2⟩ := h4 rfl
      have hb0 : ∀ d, m.below d = m.below d ∨ pc ≤ 3 ∧ at_ = some d := fun _ => .inl rfl
      obtain rfl | rfl | rfl : pc = 4 ∨ pc = 5 ∨ pc = 6 := by omega
      · obtain rfl : rpc = 1 := by omega
        by_cases ht : m.top = none
        · have ht' : f.top < 0 := h.top.neg.1 ht
          have e1 : stp m ⟨4, at_, false, 0⟩ = (m, ⟨6, m.top, false, 0⟩, false) := by simp [stp, ht]
          have e2 : rstp f ⟨2, ri, 1, rc, rr, 0, 0⟩ = (f, ⟨2, ri, 3, rc, f.top, 0, 0⟩) := by simp [rstp, rtake, ht']
          rw [e1, e2]
          exact ⟨by simp, idx, h.after hk hi rfl rfl h.nd h.sub h.len h.cell h.top h.pd ⟨by simp, (hg0 _ _ _).symm, rfl, .inr (.inl ⟨by simp, by simp, rfl, fun _ => ⟨by simp, by simp⟩⟩)⟩ idp idi idn hb0⟩
        · have ht' : ¬ f.top < 0 := fun e => ht (h.top.neg.2 e)
          have e1 : stp m ⟨4, at_, false, 0⟩ = (m, ⟨5, m.top, false, 0⟩, false) := by simp [stp, ht]
          have e2 : rstp f ⟨2, ri, 1, rc, rr, 0, 0⟩ = (f, ⟨2, ri, 2, rc, f.top, 0, 0⟩) := by simp [rstp, rtake, ht']
          rw [e1, e2]
          exact ⟨by simp, idx, h.after hk hi rfl rfl h.nd h.sub h.len h.cell h.top h.pd ⟨by simp, (hg0 _ _ _).symm, rfl, .inr (.inl ⟨by simp, by simp, rfl, fun _ => ⟨by simp, fun _ => h.top⟩⟩)⟩ idp idi idn hb0⟩
      · obtain rfl : rpc = 2 := by omega
        obtain ⟨c, rfl⟩ := hok.has (by simp)
        have hcmp := Pos.same h.nd h.top (k2 rfl)
        rcases k2 rfl with ⟨e, _⟩ | ⟨k, c', rfl, e, hkc⟩
        · cases e
        · injection e with e
          subst e
          obtain ⟨nx, e3, e4⟩ := h.cell k c hkc
          by_cases ht : m.top = some c
          · have ht' := hcmp.1 ht
            have e1 : stp m ⟨5, some c, false, 0⟩ = ({ m with top := m.below c }, ⟨4, some c, true, 1⟩, true) := by simp [stp, ht]
            have e2 : rstp f ⟨2, ri, 2, rc, k, 0, 0⟩ = ({ f with top := nx }, ⟨2, ri, 0, rc, k, m.item c, 1⟩) := by simp [rstp, rtake, ht', List.getD_eq_getElem?_getD, e3]
            rw [e1, e2]
            exact ⟨by simp, idx, h.after hk hi rfl rfl h.nd h.sub h.len h.cell e4 h.pd ⟨by simp, by simp [gotOfI], rfl, .inr (.inl ⟨by simp, by simp, rfl, fun e => by cases e⟩)⟩ idp idi idn hb0⟩
          · have ht' : ¬ f.top = (k : Int) := fun e => ht (hcmp.2 e)
            have e1 : stp m ⟨5, some c, false, 0⟩ = (m, ⟨4, some c, false, 0⟩, false) := by simp [stp, ht]
            have e2 : rstp f ⟨2, ri, 2, rc, k, 0, 0⟩ = (f, ⟨2, ri, 1, rc, k, 0, 0⟩) := by simp [rstp, rtake, ht']
            rw [e1, e2]
            exact ⟨by simp, idx, h.after hk hi rfl rfl h.nd h.sub h.len h.cell h.top h.pd ⟨by simp, (hg0 _ _ _).symm, rfl, .inr (.inl ⟨by simp, by simp, rfl, fun _ => ⟨by simp, by simp⟩⟩)⟩ idp idi idn hb0⟩
      · obtain rfl : rpc = 3 := by omega
        have e1 : stp m ⟨6, at_, false, 0⟩ = (m, ⟨6, at_, true, if m.pd = 0 then 3 else 2⟩, true) := rfl
        have e2 : rstp f ⟨2, ri, 3, rc, rr, 0, 0⟩ = (f, ⟨2, ri, 0, rc, rr, 0, if m.pd = 0 then 3 else 2⟩) := by simp [rstp, rtake, h.pd]
        rw [e1, e2]
        have hr2 : 2 ≤ (if m.pd = 0 then (3 : Int) else 2) := by split <;> omega
        generalize (if m.pd = 0 then (3 : Int) else 2) = r3 at *
        have hne : ¬ r3 = 1 := by omega
        exact ⟨by simp, idx, h.after hk hi rfl rfl h.nd h.sub h.len h.cell h.top h.pd ⟨by simp, by simp [gotOfI, hne], rfl, .inr (.inl ⟨by simp, by simp, rfl, fun e => by cases e⟩)⟩ idp idi idn hb0⟩
    · obtain rfl := h4 rfl
      have e1 : stp m ⟨7, at_, false, 0⟩ = ({ m with pd := m.pd + -1 }, ⟨7, at_, true, 0⟩, true) := rfl
      have e2 : rstp f ⟨3, ri, 1, rc, rr, 0, 0⟩ = ({ f with pd := f.pd - 1 }, ⟨3, ri, 0, rc, rr, 0, 0⟩) := by simp [rstp]
      rw [e1, e2]
      exact ⟨by simp, idx, h.after hk hi rfl rfl h.nd h.sub h.len h.cell h.top (by simp [h.pd]; omega) ⟨by simp, by simp [gotOfI], rfl, .inr (.inr ⟨rfl, rfl, fun e => by cases e⟩)⟩ idp idi idn (fun _ => .inl rfl)⟩

end Go.Proofs.Ytokdalilnckkoaa
