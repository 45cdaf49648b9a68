/- slices.Clone of literals. -/
import Derived.Test.YtgnlbmamolbcfaaDoorRStat
set_option linter.unusedVariables false
namespace Go.Proofs.YtgnlbmamolbcfaaDoor
open Go.RowKit Go.Shelf

attribute [local go_sem] Oper.semAt_some

def lc (x : Lit) : List Value := [.int .i64 x.1, .bool x.2]
theorem elemL : ElemS Tryd.prog 22 38 2 16 := by
  refine ⟨by kernel_rfl, ?_, by decide⟩
  obtain ⟨i, hi, hz⟩ := Option.map_eq_some_iff.1 (show (Tryd.prog.info? 38).map (fun i => (i.zero, i.size, i.bytes)) = some (some (.agg #[.int .i64 0, .bool false]), 2, 16) by kernel_rfl)
  simp only [Prod.mk.injEq] at hz
  exact ⟨i, _, hi, hz.1, hz.2.1, hz.2.2, rfl⟩
theorem elemC : ElemS Tryd.prog 23 38 2 16 := ⟨by kernel_rfl, elemL.hi, by decide⟩
theorem lc_one (l : List Lit) : ∀ u ∈ l.flatMap lc, u.oneCell' = true := fun u hu => by
  obtain ⟨a, _, ha⟩ := List.mem_flatMap.1 hu
  simp [lc] at ha
  rcases ha with rfl | rfl <;> rfl
theorem add_succ (a : Addr) (n : Nat) : a.add (n + 1) = ⟨(a.add n).block, (a.add n).off + 1, none⟩ := by
  unfold Addr.add
  by_cases h : n = 0 <;> simp [h, Nat.add_assoc]
theorem Cs.cells {w : World} {ad : Addr} {l : List Lit} (h : Cs w (some ad) l) : ∀ j u, (l.flatMap lc)[j]? = some u → w.cell? (ad.add j) = some u := fun j u hu => by
  have hj := (List.getElem?_eq_some_iff.1 hu).1
  rw [flat_len (k := 2) (fun _ => rfl)] at hj
  obtain ⟨x, hx⟩ : ∃ x, l[j / 2]? = some x := ⟨_, List.getElem?_eq_getElem (by omega)⟩
  obtain ⟨ad', e, hb, h1, h2⟩ := h (j / 2) x hx
  cases e
  rcases (show j = j / 2 * 2 + 0 ∨ j = j / 2 * 2 + 1 by omega) with e | e
  · have := flat_at (F := lc) (k := 2) (j := 0) (fun _ => rfl) hx (by decide)
    rw [← e, hu] at this
    injection this with this
    rw [e, Nat.add_zero, h1, this]
  · have := flat_at (F := lc) (k := 2) (j := 1) (fun _ => rfl) hx (by decide)
    rw [← e, hu] at this
    injection this with this
    rw [e, add_succ, h2, this]
theorem Cs.own {w : World} {A : Option Addr} {B n c : Nat} {l : List Lit} (h : w.ownsRow B 38 2 (.slice A n c) n (l.flatMap lc)) : Cs w A l := fun i x hx => by
  have hl : (l.flatMap lc).length = n * 2 := h.1
  rw [flat_len (k := 2) (fun _ => rfl)] at hl
  have hi := (List.getElem?_eq_some_iff.1 hx).1
  have h' := h
  obtain ⟨_, ⟨_, h0⟩ | ⟨g, cap, cur, hv, _, hh, _⟩⟩ := h
  · omega
  · injection hv with hv _ _
    subst hv
    have c1 := row_cell (F := lc) (k := 2) (j := 0) (fun _ => rfl) h' hx (by decide)
    have c2 := row_cell (F := lc) (k := 2) (j := 1) (fun _ => rfl) h' hx (by decide)
    exact ⟨⟨g, 0, none⟩, rfl, Bk.lt hh, by rw [add_mk, Nat.zero_add]; exact c1, by rw [add_mk, Nat.zero_add]; exact c2⟩

theorem eqs22 (ad : Addr) (n c : Nat) (w : World) : (binOp .eql 22 (.slice (some ad) n c) (.slice none 0 0)).run Tryd.prog w = .ok (.bool false) w := by kernel_rfl
theorem eqz22 (w : World) : (binOp .eql 22 (.slice none 0 0) (.slice none 0 0)).run Tryd.prog w = .ok (.bool true) w := by kernel_rfl
set_option maxRecDepth 100000 in
set_option maxHeartbeats 800000 in
theorem clone42 (w : World) (A : Option Addr) (n c : Nat) (l : List Lit) (hA : A = none → n = 0 ∧ c = 0) (hl : l.length = n) (hn : n ≤ 100000) (hc : Cs w A l) :
    Calls Tryd.prog 42 #[.slice A n c] w fun e w' => ∃ v', e = .returned v' ∧ w'.ownsRow w.heap.size 38 2 v' n (l.flatMap lc) ∧ Gr w w' := by
  cases A with
  | none =>
    obtain ⟨rfl, rfl⟩ := hA rfl
    have hl0 : l = [] := List.length_eq_zero_iff.1 hl
    subst hl0
    have heq := eqz22 w
    clear hA hl hc
    go_enter Tryd.func42, Tryd.ntmps42
    go_wp2
    go_ret
    exact ⟨_, rfl, ⟨rfl, .inl ⟨rfl, rfl⟩⟩, Gr.refl w⟩
  | some ad =>
    have heq := eqs22 ad n c w
    have HO : Hid ((w.alloc (.cells #[] 38)).ownsRow w.heap.size 38 2 (.slice (some ⟨w.heap.size, 0, none⟩) 0 0) 0 []) := ⟨rfl, .inr ⟨w.heap.size, 0, #[], rfl, Nat.le_refl _, Bk.made _ _ _, Nat.le_refl _, Nat.zero_le _, rfl, rfl⟩⟩
    have HC : Hid (∀ j u, (l.flatMap lc)[j]? = some u → (w.alloc (.cells #[] 38)).cell? (ad.add j) = some u) := (hc.gr ((Gr.refl w).alloc _)).cells
    have HU := Lib.hid (lc_one l)
    have H1 : Hid ((l.flatMap lc).length = n * 2) := by rw [flat_len (k := 2) (fun _ => rfl), hl]; exact rfl
    clear hA hl hc
    go_enter Tryd.func42, Tryd.ntmps42
    go_wp2_with (at_builtin; refine wpList_appS elemL rfl _ _ rfl w.heap.size (.slice (some ⟨w.heap.size, 0, none⟩) 0 0) 0 [] rfl HO.out ad n c (l.flatMap lc) rfl H1.out HC.out HU.out (by unfold maxLen; omega) (by omega) (by simp) ?_; intro v' w' h2 h3 h5)
    go_wp2
    go_ret
    rw [Nat.zero_add, List.nil_append] at h2
    refine ⟨v', rfl, h2, Gr.of (((Below.refl _ w).alloc (Nat.le_refl _) _).grown h3 (by simp) (fun k e => ?_))⟩
    injection e with e
    exact Nat.le_of_eq e
end Go.Proofs.YtgnlbmamolbcfaaDoor
