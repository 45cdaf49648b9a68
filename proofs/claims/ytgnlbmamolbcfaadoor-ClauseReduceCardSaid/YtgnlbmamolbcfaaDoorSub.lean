/- Has, Contains, within, Subsumes. -/
import Derived.Test.YtgnlbmamolbcfaaDoorValid
import Derived.Shelf.Abstract
set_option linter.unusedVariables false
namespace Go.Proofs.YtgnlbmamolbcfaaDoor
open Go.RowKit Go.Shelf

attribute [local go_sem] Oper.semAt_some

theorem con_snoc {l : List Lit} {t : Nat} {x y : Lit} (h : l[t]? = some y) (hc : (l.take t).contains x = false) (hne : y ≠ x) : (l.take (t + 1)).contains x = false := by
  rw [List.take_add_one, h]
  simp only [List.contains_eq_mem, decide_eq_false_iff_not] at hc ⊢
  simp only [Option.toList_some, List.mem_append, List.mem_singleton]
  rintro (h1 | h1)
  · exact hc h1
  · exact hne h1.symm
theorem con_yes {l : List Lit} {t : Nat} {x : Lit} (h : l[t]? = some x) : l.contains x = true := by
  simp only [List.contains_eq_mem, decide_eq_true_eq]
  exact List.mem_of_getElem? h

set_option maxRecDepth 100000 in
set_option maxHeartbeats 1000000 in
theorem has_any (w : World) (A : Option Addr) (n c : Nat) (l : List Lit) (x : Lit) (hl : l.length = n) (hn : n ≤ maxLen) (hc : Cs w A l) :
    Calls Tryd.prog 33 #[.slice A n c, .agg #[.int .i64 x.1, .bool x.2]] w fun e w' => e = .returned (.bool (l.contains x)) ∧ Gr w w' := by
  unfold maxLen at hn
  have HL := Lib.hid hl
  have HC := Lib.hid hc
  obtain ⟨x1, x2⟩ := x
  have G0 := Lib.hid ((Gr.refl w).alloc (.cells #[.int .i64 x1, .bool x2] 38))
  have B0 := Lib.hid (Bk.made w 38 #[.int .i64 x1, .bool x2])
  clear hl hc
  simp only
  go_enter Tryd.func33, Tryd.ntmps33
  go_wp2
  generalize hz : w.heap.size = b at *
  clear hz
  go_loopw [5] (fun i wr => ∃ t : Nat, i = .int .i64 t ∧ t ≤ n ∧ Hid ((l.take t).contains (x1, x2) = false) ∧ Hid (Gr w wr) ∧ Hid (Bk wr b 38 #[.int .i64 x1, .bool x2])) (fun i _ => n - (intOf i).toNat)
  case atStart => exact ⟨0, rfl, Nat.zero_le _, rfl, G0, B0⟩
  case round =>
    obtain ⟨t, rfl, ht, hB, hG, hK⟩ := hrel
    by_cases htn : t < n
    · obtain ⟨y, hy⟩ : ∃ y, l[t]? = some y := ⟨_, List.getElem?_eq_getElem (by rw [HL.out]; omega)⟩
      obtain ⟨ad, rfl, hb, d1, d2⟩ := HC.out.gr hG.out t y hy
      have k1 : wr.cell? ⟨b, 0, none⟩ = some (.int .i64 x1) := (hK.out.cell 0).trans rfl
      have k2 : wr.cell? ⟨b, 1, none⟩ = some (.bool x2) := (hK.out.cell 1).trans rfl
      obtain ⟨y1, y2⟩ := y
      by_cases hxy : y1 = x1 ∧ y2 = x2
      · obtain ⟨rfl, rfl⟩ := hxy
        have HV := Lib.hid (con_yes hy)
        clear hy hb
        go_wp2_with fail
        go_quiet (fail)
        go_wp2
        go_ret
        exact ⟨by rw [HV.out]; rfl, hG.out.drewN nq⟩
      · have HV := Lib.hid (con_snoc hy hB.out (fun e => hxy (by injection e with e1 e2; exact ⟨e1, e2⟩)))
        have hne : ((y1 == x1) && (y2 == x2)) = false := by
          cases h1 : (y1 == x1) <;> cases h2 : (y2 == x2) <;> simp at h1 h2 ⊢
          exact hxy ⟨h1, h2⟩
        clear hy hb
        go_wp2_with fail
        by_cases h1 : y1 = x1
        · have h1' : (y1 == x1) = true := by simpa using h1
          have h2' : (y2 == x2) = false := by simpa using fun e => hxy ⟨h1, e⟩
          clear hne hxy h1
          go_quiet (fail)
          have G3 := Lib.hid (hG.out.drewN nq)
          have K3 : Hid (Bk (wr.drewN nq) b 38 #[.int .i64 x1, .bool x2]) := hK.out
          go_wp2
          go_roundw
          case rel => exact ⟨t + 1, by go_num, by omega, HV, G3, K3⟩
          case measure => simp [intOf]; omega
        · have h1' : (y1 == x1) = false := by simpa using h1
          clear hne hxy h1
          go_quiet (fail)
          have G3 := Lib.hid (hG.out.drewN nq)
          have K3 : Hid (Bk (wr.drewN nq) b 38 #[.int .i64 x1, .bool x2]) := hK.out
          go_wp2
          go_roundw
          case rel => exact ⟨t + 1, by go_num, by omega, HV, G3, K3⟩
          case measure => simp [intOf]; omega
    · go_wp2
      go_ret
      have hV := hB.out
      rw [List.take_of_length_le (by rw [HL.out]; omega)] at hV
      exact ⟨by rw [hV]; rfl, hG.out⟩
/-- An index, or -1. -/
def IxR (b : Bool) (w : World) (e : Ending) (w' : World) : Prop := ∃ r : Int, e = .returned (.int .i64 r) ∧ (0 ≤ r ↔ b = true) ∧ Gr w w'
set_option maxRecDepth 100000 in
set_option maxHeartbeats 1000000 in
theorem index_any (w : World) (A : Option Addr) (n c : Nat) (l : List Lit) (x : Lit) (hl : l.length = n) (hn : n ≤ maxLen) (hc : Cs w A l) :
    Calls Tryd.prog 51 #[.slice A n c, .agg #[.int .i64 x.1, .bool x.2]] w (IxR (l.contains x) w) := by
  unfold maxLen at hn
  have HL := Lib.hid hl
  have HC := Lib.hid hc
  obtain ⟨x1, x2⟩ := x
  have G0 := Lib.hid ((Gr.refl w).alloc (.cells #[.int .i64 x1, .bool x2] 38))
  have B0 := Lib.hid (Bk.made w 38 #[.int .i64 x1, .bool x2])
  clear hl hc
  simp only
  go_enter Tryd.func51, Tryd.ntmps51
  go_wp2
  generalize hz : w.heap.size = b at *
  clear hz
  go_loopw [8] (fun i wr => ∃ t : Nat, i = .int .i64 t ∧ t ≤ n ∧ Hid ((l.take t).contains (x1, x2) = false) ∧ Hid (Gr w wr) ∧ Hid (Bk wr b 38 #[.int .i64 x1, .bool x2])) (fun i _ => n - (intOf i).toNat)
  case atStart => exact ⟨0, rfl, Nat.zero_le _, rfl, G0, B0⟩
  case round =>
    obtain ⟨t, rfl, ht, hB, hG, hK⟩ := hrel
    by_cases htn : t < n
    · obtain ⟨y, hy⟩ : ∃ y, l[t]? = some y := ⟨_, List.getElem?_eq_getElem (by rw [HL.out]; omega)⟩
      obtain ⟨ad, rfl, hb, d1, d2⟩ := HC.out.gr hG.out t y hy
      have k1 : wr.cell? ⟨b, 0, none⟩ = some (.int .i64 x1) := (hK.out.cell 0).trans rfl
      have k2 : wr.cell? ⟨b, 1, none⟩ = some (.bool x2) := (hK.out.cell 1).trans rfl
      obtain ⟨y1, y2⟩ := y
      by_cases hxy : y1 = x1 ∧ y2 = x2
      · obtain ⟨rfl, rfl⟩ := hxy
        have HV := Lib.hid (con_yes hy)
        clear hy hb
        go_wp2_with fail
        go_quiet (fail)
        go_wp2
        go_ret
        exact ⟨(t : Int), rfl, by rw [HV.out]; simp, hG.out.drewN nq⟩
      · have HV := Lib.hid (con_snoc hy hB.out (fun e => hxy (by injection e with e1 e2; exact ⟨e1, e2⟩)))
        have hne : ((x1 == y1) && (x2 == y2)) = false := by
          cases h1 : (x1 == y1) <;> cases h2 : (x2 == y2) <;> simp at h1 h2 ⊢
          exact hxy ⟨h1.symm, h2.symm⟩
        clear hy hb
        go_wp2_with fail
        by_cases h1 : y1 = x1
        · have h1' : (x1 == y1) = true := by simpa using h1.symm
          have h2' : (x2 == y2) = false := by simpa using fun e : x2 = y2 => hxy ⟨h1, e.symm⟩
          clear hne hxy h1
          go_quiet (fail)
          have G3 := Lib.hid (hG.out.drewN nq)
          have K3 : Hid (Bk (wr.drewN nq) b 38 #[.int .i64 x1, .bool x2]) := hK.out
          go_wp2
          go_roundw
          case rel => exact ⟨t + 1, by go_num, by omega, HV, G3, K3⟩
          case measure => simp [intOf]; omega
        · have h1' : (x1 == y1) = false := by simpa using fun e : x1 = y1 => h1 e.symm
          clear hne hxy h1
          go_quiet (fail)
          have G3 := Lib.hid (hG.out.drewN nq)
          have K3 : Hid (Bk (wr.drewN nq) b 38 #[.int .i64 x1, .bool x2]) := hK.out
          go_wp2
          go_roundw
          case rel => exact ⟨t + 1, by go_num, by omega, HV, G3, K3⟩
          case measure => simp [intOf]; omega
    · go_wp2
      go_ret
      have hV := hB.out
      rw [List.take_of_length_le (by rw [HL.out]; omega)] at hV
      exact ⟨-1, rfl, by rw [hV]; simp, hG.out⟩

set_option maxRecDepth 100000 in
set_option maxHeartbeats 1000000 in
theorem contains_any (w : World) (A : Option Addr) (n c : Nat) (l : List Lit) (x : Lit) (hl : l.length = n) (hn : n ≤ maxLen) (hc : Cs w A l) :
    Calls Tryd.prog 34 #[.slice A n c, .agg #[.int .i64 x.1, .bool x.2]] w fun e w' => e = .returned (.bool (l.contains x)) ∧ Gr w w' := by
  have G0 := (Gr.refl w).alloc (.cells #[.int .i64 x.1, .bool x.2] 38)
  have HX := Lib.hid (index_any _ A n c l x hl hn (hc.gr G0))
  have HG := Lib.hid G0
  obtain ⟨x1, x2⟩ := x
  clear hl hn hc G0
  simp only at *
  generalize l.contains (x1, x2) = bb at *
  go_enter Tryd.func34, Tryd.ntmps34
  go_wp2_with fail
  refine HX.out.mono ?_
  rintro e w2 ⟨r, rfl, hr, G2⟩
  have HG2 := Lib.hid (HG.out.trans G2)
  clear G2
  cases bb
  · have h1 : ¬ 0 ≤ r := fun h => by cases hr.1 h
    have H1 := Lib.hid (decide_eq_false h1)
    clear hr
    go_wp2
    go_ret
    exact ⟨ret_bool H1.out, HG2.out⟩
  · have h1 : 0 ≤ r := hr.2 rfl
    clear hr
    go_wp2
    go_ret
    exact ⟨rfl, HG2.out⟩

/-- A function value that tells of each literal: it may only make memory, as long as what lies in w0 lies on. -/
structure Fc (kv : Value) (f : Lit → Bool) (w0 : World) : Prop where
  call : ∃ F cb, kv = .func (.func F) #[] cb ∧ (∀ args W, (callFunc F args).run Tryd.prog W = .ok (.enter F args) W) ∧ ∀ (x : Lit) W, Gr w0 W → Calls Tryd.prog F (#[.agg #[.int .i64 x.1, .bool x.2]] ++ cb) W fun e w' => e = .returned (.bool (f x)) ∧ Gr W w'
theorem any_snoc {l : List Lit} {t : Nat} {y : Lit} {f : Lit → Bool} (h : l[t]? = some y) (hc : (l.take t).any f = false) (hne : f y = false) : (l.take (t + 1)).any f = false := by
  rw [List.take_add_one, h, List.any_append, hc]
  simp [hne]
theorem any_yes {l : List Lit} {t : Nat} {x : Lit} {f : Lit → Bool} (h : l[t]? = some x) (hf : f x = true) : l.any f = true := List.any_eq_true.2 ⟨x, List.mem_of_getElem? h, hf⟩
set_option maxRecDepth 100000 in
set_option maxHeartbeats 1000000 in
theorem indexFunc_any (w w0 : World) (A : Option Addr) (n c : Nat) (l : List Lit) (kv : Value) (f : Lit → Bool) (hl : l.length = n) (hn : n ≤ maxLen) (hc : Cs w A l) (hk : Fc kv f w0) (h0 : Gr w0 w) :
    Calls Tryd.prog 52 #[.slice A n c, kv] w (IxR (l.any f) w) := by
  unfold maxLen at hn
  obtain ⟨F, cb, rfl, eg, hcall⟩ := hk.call
  have HL := Lib.hid hl
  have HC := Lib.hid hc
  have HK := Lib.hid hcall
  have H0 := Lib.hid h0
  clear hl hc hk hcall h0
  go_enter Tryd.func52, Tryd.ntmps52
  go_wp2
  go_loopw [8] (fun i wr => ∃ t : Nat, i = .int .i64 t ∧ t ≤ n ∧ Hid ((l.take t).any f = false) ∧ Hid (Gr w wr)) (fun i _ => n - (intOf i).toNat)
  case atStart => exact ⟨0, rfl, Nat.zero_le _, rfl, Gr.refl w⟩
  case round =>
    obtain ⟨t, rfl, ht, hB, hG⟩ := hrel
    by_cases htn : t < n
    · obtain ⟨y, hy⟩ : ∃ y, l[t]? = some y := ⟨_, List.getElem?_eq_getElem (by rw [HL.out]; omega)⟩
      obtain ⟨ad, rfl, hb, d1, d2⟩ := HC.out.gr hG.out t y hy
      have HY := Lib.hid hy
      have HCL := Lib.hid (HK.out y wr (H0.out.trans hG.out))
      obtain ⟨y1, y2⟩ := y
      clear hy hb
      simp only at *
      go_wp2_with fail
      refine HCL.out.mono ?_
      rintro e w2 ⟨rfl, G2⟩
      have HG2 := Lib.hid (hG.out.trans G2)
      clear G2 HCL
      cases hf : f (y1, y2)
      · have HV := Lib.hid (any_snoc HY.out hB.out hf)
        clear hf
        go_wp2
        go_roundw
        case rel => exact ⟨t + 1, by go_num, by omega, HV, HG2⟩
        case measure => simp [intOf]; omega
      · have HV := Lib.hid (any_yes HY.out hf)
        clear hf
        go_wp2
        go_ret
        exact ⟨(t : Int), rfl, by rw [HV.out]; simp, HG2.out⟩
    · go_wp2
      go_ret
      have hV := hB.out
      rw [List.take_of_length_le (by rw [HL.out]; omega)] at hV
      exact ⟨-1, rfl, by rw [hV]; simp, hG.out⟩

set_option maxRecDepth 100000 in
set_option maxHeartbeats 1000000 in
theorem containsFunc_any (w w0 : World) (A : Option Addr) (n c : Nat) (l : List Lit) (kv : Value) (f : Lit → Bool) (hl : l.length = n) (hn : n ≤ maxLen) (hc : Cs w A l) (hk : Fc kv f w0) (h0 : Gr w0 w) :
    Calls Tryd.prog 49 #[.slice A n c, kv] w fun e w' => e = .returned (.bool (l.any f)) ∧ Gr w w' := by
  have HX := Lib.hid (indexFunc_any w w0 A n c l kv f hl hn hc hk h0)
  clear hl hn hc hk h0
  generalize l.any f = bb at *
  go_enter Tryd.func49, Tryd.ntmps49
  go_wp2_with fail
  refine HX.out.mono ?_
  rintro e w2 ⟨r, rfl, hr, G2⟩
  have HG2 := Lib.hid G2
  clear G2
  cases bb
  · have h1 : ¬ 0 ≤ r := fun h => by cases hr.1 h
    have H1 := Lib.hid (decide_eq_false h1)
    clear hr
    go_wp2
    go_ret
    exact ⟨ret_bool H1.out, HG2.out⟩
  · have h1 : 0 ≤ r := hr.2 rfl
    clear hr
    go_wp2
    go_ret
    exact ⟨rfl, HG2.out⟩
set_option maxRecDepth 100000 in
set_option maxHeartbeats 1000000 in
theorem within1_fc (w0 : World) (B : Option Addr) (m cb q : Nat) (b : List Lit) (hl : b.length = m) (hn : m ≤ maxLen) (hc : Cs w0 B b) (hq : Bk w0 q 23 #[.slice B m cb]) : Fc (.func (.func 50) #[] #[.pointer (some ⟨q, 0, none⟩)]) (fun x => !b.contains x) w0 := by
  refine ⟨50, _, rfl, enters_of Tryd.func50 (by kernel_rfl) rfl, fun x W hG => ?_⟩
  have G1 := (Gr.refl W).alloc (.cells #[.int .i64 x.1, .bool x.2] 38)
  have HX := Lib.hid (contains_any _ B m cb b x hl hn ((hc.gr hG).gr G1))
  have k1 : W.cell? ⟨q, 0, none⟩ = some (.slice B m cb) := ((hG.fr.bk hq id).cell 0).trans rfl
  have hql : q < W.heap.size := (hG.fr.bk hq id).lt
  have HG1 := Lib.hid G1
  obtain ⟨x1, x2⟩ := x
  clear hl hn hc hq G1 hG
  simp only at *
  change Calls Tryd.prog 50 #[.agg #[.int .i64 x1, .bool x2], .pointer (some ⟨q, 0, none⟩)] W _
  generalize b.contains (x1, x2) = bb at *
  go_enter Tryd.func50, Tryd.ntmps50
  go_wp2_with fail
  refine HX.out.mono ?_
  rintro e w2 ⟨rfl, G2⟩
  have HG2 := Lib.hid (HG1.out.trans G2)
  clear G2
  go_wp2
  go_ret
  exact ⟨rfl, HG2.out⟩
theorem any_within (a b : List Lit) : (!a.any fun x => !b.contains x) = within a b := by
  rw [within, List.all_eq_not_any_not]
set_option maxRecDepth 100000 in
set_option maxHeartbeats 1000000 in
theorem within_any (w : World) (A B : Option Addr) (n c m cb : Nat) (a b : List Lit) (hl : a.length = n) (hn : n ≤ maxLen) (hc : Cs w A a) (hl2 : b.length = m) (hn2 : m ≤ maxLen) (hc2 : Cs w B b) :
    Calls Tryd.prog 32 #[.slice A n c, .slice B m cb] w fun e w' => e = .returned (.bool (within a b)) ∧ Gr w w' := by
  have G1 := (Gr.refl w).alloc (.cells #[.slice B m cb] 23)
  have HX := Lib.hid (containsFunc_any _ _ A n c a _ _ hl hn (hc.gr G1) (within1_fc _ B m cb w.heap.size b hl2 hn2 (hc2.gr G1) (Bk.made _ _ _)) (Gr.refl _))
  have HG1 := Lib.hid G1
  rw [← any_within]
  clear hl hn hc hl2 hn2 hc2 G1
  generalize (a.any fun x => !b.contains x) = bb at *
  go_enter Tryd.func32, Tryd.ntmps32
  go_wp2_with fail
  refine HX.out.mono ?_
  rintro e w2 ⟨rfl, G2⟩
  have HG2 := Lib.hid (HG1.out.trans G2)
  clear G2
  go_wp2
  go_ret
  exact ⟨rfl, HG2.out⟩
set_option maxRecDepth 100000 in
set_option maxHeartbeats 1000000 in
theorem subsumes_any (w : World) (A B : Option Addr) (n c m cb : Nat) (a b : List Lit) (hl : a.length = n) (hn : n ≤ maxLen) (hc : Cs w A a) (hl2 : b.length = m) (hn2 : m ≤ maxLen) (hc2 : Cs w B b) :
    Calls Tryd.prog 12 #[.slice A n c, .slice B m cb] w fun e w' => e = .returned (.bool (subsB a b)) ∧ Gr w w' := by
  have H1 := Lib.hid (valid_any w A n c a hl hn hc)
  have H2 : Hid (∀ W, Gr w W → Calls Tryd.prog 26 #[.slice B m cb] W fun e w' => e = .returned (.bool (vldB b)) ∧ Gr W w') := fun W hG => valid_any W B m cb b hl2 hn2 (hc2.gr hG)
  have H3 : Hid (∀ W, Gr w W → Calls Tryd.prog 32 #[.slice A n c, .slice B m cb] W fun e w' => e = .returned (.bool (within a b)) ∧ Gr W w') := fun W hG => within_any W A B n c m cb a b hl hn (hc.gr hG) hl2 hn2 (hc2.gr hG)
  have HS : Hid (subsB a b = (vldB a && (vldB b && within a b))) := rfl
  rw [HS.out]
  clear hl hn hc hl2 hn2 hc2 HS
  generalize vldB a = va at *
  generalize vldB b = vb at *
  generalize within a b = wb at *
  go_enter Tryd.func12, Tryd.ntmps12
  go_wp2_with fail
  refine H1.out.mono ?_
  rintro e w2 ⟨rfl, G2⟩
  replace G2 := Lib.hid G2
  cases va
  · go_wp2
    go_ret
    exact ⟨rfl, G2.out⟩
  go_wp2_with fail
  refine (H2.out _ G2.out).mono ?_
  rintro e w3 ⟨rfl, G3⟩
  have HG3 := Lib.hid (G2.out.trans G3)
  clear G3
  cases vb
  · go_wp2
    go_ret
    exact ⟨rfl, HG3.out⟩
  go_wp2_with fail
  refine (H3.out _ HG3.out).mono ?_
  rintro e w4 ⟨rfl, G4⟩
  have HG4 := Lib.hid (HG3.out.trans G4)
  clear G4
  go_wp2
  go_ret
  exact ⟨by cases wb <;> rfl, HG4.out⟩
end Go.Proofs.YtgnlbmamolbcfaaDoor
