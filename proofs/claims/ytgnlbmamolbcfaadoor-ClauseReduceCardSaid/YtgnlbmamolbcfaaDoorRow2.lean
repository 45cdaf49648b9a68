/- Rows of clauses; slices.Clone of a clause. -/
import Derived.Test.YtgnlbmamolbcfaaDoorLawImp
import Derived.Test.YtgnlbmamolbcfaaDoorRedP
set_option linter.unusedVariables false
namespace Go.Proofs.YtgnlbmamolbcfaaDoor
open Go.RowKit Go.Shelf

attribute [local go_sem] Oper.semAt_some

def sv (v : Cv) : Value := .slice v.A v.n v.c
theorem elemR : ElemS Tryd.prog 44 23 1 24 := by
  refine ⟨by kernel_rfl, ?_, by decide⟩
  obtain ⟨i, hi, hz⟩ := Option.map_eq_some_iff.1 (show (Tryd.prog.info? 23).map (fun i => (i.zero, i.size, i.bytes)) = some (some (.slice none 0 0), 1, 24) by kernel_rfl)
  simp only [Prod.mk.injEq] at hz
  exact ⟨i, _, hi, hz.1, hz.2.1, hz.2.2, rfl⟩
theorem sv_one (A : Option Addr) (n c : Nat) : ∀ u ∈ (#[Value.slice A n c] : Array Value).toList, u.oneCell' = true := by
  intro u hu
  simp at hu
  subst hu
  rfl
theorem eqs23 (ad : Addr) (n c : Nat) (w : World) : (binOp .eql 23 (.slice (some ad) n c) (.slice none 0 0)).run Tryd.prog w = .ok (.bool false) w := by kernel_rfl
theorem eqz23 (w : World) : (binOp .eql 23 (.slice none 0 0) (.slice none 0 0)).run Tryd.prog w = .ok (.bool true) w := by kernel_rfl
set_option maxRecDepth 100000 in
set_option maxHeartbeats 800000 in
theorem clone48 (w : World) (A : Option Addr) (n c : Nat) (l : List Lit) (hA : A = none → n = 0 ∧ c = 0) (hl : l.length = n) (hn : n ≤ 100000) (hc : Cs w A l) :
    Calls Tryd.prog 48 #[.slice A n c] w fun e w' => ∃ v', e = .returned v' ∧ w'.ownsRow w.heap.size 38 2 v' n (l.flatMap lc) ∧ Gr w w' := by
  cases A with
  | none =>
    obtain ⟨rfl, rfl⟩ := hA rfl
    have hl0 : l = [] := List.length_eq_zero_iff.1 hl
    subst hl0
    have heq := eqz23 w
    clear hA hl hc
    go_enter Tryd.func48, Tryd.ntmps48
    go_wp2
    go_ret
    exact ⟨_, rfl, ⟨rfl, .inl ⟨rfl, rfl⟩⟩, Gr.refl w⟩
  | some ad =>
    have heq := eqs23 ad n c w
    have HO : Hid ((w.alloc (.cells #[] 38)).ownsRow w.heap.size 38 2 (.slice (some ⟨w.heap.size, 0, none⟩) 0 0) 0 []) := ⟨rfl, .inr ⟨w.heap.size, 0, #[], rfl, Nat.le_refl _, Bk.made _ _ _, Nat.le_refl _, Nat.zero_le _, rfl, rfl⟩⟩
    have HC : Hid (∀ j u, (l.flatMap lc)[j]? = some u → (w.alloc (.cells #[] 38)).cell? (ad.add j) = some u) := (hc.gr ((Gr.refl w).alloc _)).cells
    have HU := Lib.hid (lc_one l)
    have H1 : Hid ((l.flatMap lc).length = n * 2) := by rw [flat_len (k := 2) (fun _ => rfl), hl]; exact rfl
    clear hA hl hc
    go_enter Tryd.func48, Tryd.ntmps48
    go_wp2_with (at_builtin; refine wpList_appS elemC rfl _ _ rfl w.heap.size (.slice (some ⟨w.heap.size, 0, none⟩) 0 0) 0 [] rfl HO.out ad n c (l.flatMap lc) rfl H1.out HC.out HU.out (by unfold maxLen; omega) (by omega) (by simp) ?_; intro v' w' h2 h3 h5)
    go_wp2
    go_ret
    rw [Nat.zero_add, List.nil_append] at h2
    refine ⟨v', rfl, h2, Gr.of (((Below.refl _ w).alloc (Nat.le_refl _) _).grown h3 (by simp) (fun k e => ?_))⟩
    injection e with e
    exact Nat.le_of_eq e
/-- Clauses of our own. -/
def Good (B : Nat) (w : World) (os : List Cv) : Prop := ∀ o ∈ os, w.ownsRow B 38 2 (sv o) o.n (o.l.flatMap lc)
theorem Good.gr {B : Nat} {w w' : World} {os : List Cv} (h : Good B w os) (k : Gr w w') : Good B w' os := fun o ho => row_gr (h o ho) k
theorem Good.fr {B B2 n : Nat} {v : Value} {xs : List Value} {w w' : World} {os : List Cv} (h : Good B w os) (r : w.ownsRow B2 23 1 v n xs) (F : Fr (fun b => v.ownBlock = some b) w w') : Good B w' os := fun o ho => rw_keep (h o ho) fun b e => F.keep b (rw_lt (h o ho) b e).2 fun e2 => by
  obtain ⟨c1, h1⟩ := rw_bk (h o ho) b e
  obtain ⟨c2, h2⟩ := rw_bk r b e2
  exact Bk.ne h1 h2 (by decide) rfl
theorem Good.cls {B B2 n c : Nat} {A : Option Addr} {w : World} {os : List Cv} (h : Good B w os) (r : w.ownsRow B2 23 1 (.slice A n c) n (os.map sv)) (hn : ∀ o ∈ os, o.n ≤ maxLen) : Cls w A os := fun i v hv => by
  have hm := List.mem_of_getElem? hv
  obtain ⟨ad, e, hb, hc⟩ := Sees.own r i (sv v) (by rw [List.getElem?_map, hv]; rfl)
  exact ⟨ad, e, hb, hc, row_len (h v hm), hn v hm, Cs.own (h v hm)⟩
theorem rowc_len {w : World} {B n : Nat} {v : Value} {os : List Cv} (h : w.ownsRow B 23 1 v n (os.map sv)) : os.length = n := by
  have := h.1
  rw [List.length_map] at this
  omega
end Go.Proofs.YtgnlbmamolbcfaaDoor
