/- slices.DeleteFunc of literals. -/
import Derived.Test.YtgnlbmamolbcfaaDoorCompact
set_option linter.unusedVariables false
namespace Go.Proofs.YtgnlbmamolbcfaaDoor
open Go.RowKit Go.Shelf

attribute [local go_sem] Oper.semAt_some

/-- The first place of which f tells, or -1. -/
def IxF (f : Lit → Bool) (l : List Lit) (w : World) (e : Ending) (w' : World) : Prop := ∃ r : Int, e = .returned (.int .i64 r) ∧ ((r = -1 ∧ l.any f = false) ∨ ∃ (t : Nat) (x : Lit), r = t ∧ l[t]? = some x ∧ f x = true ∧ (l.take t).any f = false) ∧ Gr w w'
set_option maxRecDepth 100000 in
set_option maxHeartbeats 1000000 in
theorem indexFunc2 (w w0 : World) (A : Option Addr) (n c : Nat) (l : List Lit) (kv : Value) (f : Lit → Bool) (hl : l.length = n) (hn : n ≤ maxLen) (hc : Cs w A l) (hk : Fc kv f w0) (h0 : Gr w0 w) :
    Calls Tryd.prog 52 #[.slice A n c, kv] w (IxF f l w) := by
  unfold maxLen at hn
  obtain ⟨F, cb, rfl, eg, hcall⟩ := hk.call
  have HL := Lib.hid hl
  have HC := Lib.hid hc
  have HK := Lib.hid hcall
  have H0 := Lib.hid h0
  clear hl hc hk hcall h0
  go_enter Tryd.func52, Tryd.ntmps52
  go_wp2
  go_loopw [8] (fun i wr => ∃ t : Nat, i = .int .i64 t ∧ t ≤ n ∧ Hid ((l.take t).any f = false) ∧ Hid (Gr w wr)) (fun i _ => n - (intOf i).toNat)
  case atStart => exact ⟨0, rfl, Nat.zero_le _, rfl, Gr.refl w⟩
  case round =>
    obtain ⟨t, rfl, ht, hB, hG⟩ := hrel
    by_cases htn : t < n
    · obtain ⟨y, hy⟩ : ∃ y, l[t]? = some y := ⟨_, List.getElem?_eq_getElem (by rw [HL.out]; omega)⟩
      obtain ⟨ad, rfl, hb, d1, d2⟩ := HC.out.gr hG.out t y hy
      have HY := Lib.hid hy
      have HCL := Lib.hid (HK.out y wr (H0.out.trans hG.out))
      obtain ⟨y1, y2⟩ := y
      clear hy hb
      simp only at *
      go_wp2_with fail
      refine HCL.out.mono ?_
      rintro e w2 ⟨rfl, G2⟩
      have HG2 := Lib.hid (hG.out.trans G2)
      clear G2 HCL
      cases hf : f (y1, y2)
      · have HV := Lib.hid (any_snoc HY.out hB.out hf)
        clear hf
        go_wp2
        go_roundw
        case rel => exact ⟨t + 1, by go_num, by omega, HV, HG2⟩
        case measure => simp [intOf]; omega
      · have HV := Lib.hid hf
        clear hf
        go_wp2
        go_ret
        exact ⟨(t : Int), rfl, .inr ⟨t, (y1, y2), rfl, HY.out, HV.out, hB.out⟩, HG2.out⟩
    · go_wp2
      go_ret
      have hV := hB.out
      rw [List.take_of_length_le (by rw [HL.out]; omega)] at hV
      exact ⟨-1, rfl, .inl ⟨rfl, hV⟩, hG.out⟩


theorem flt_skip {l : List Lit} {t : Nat} {x : Lit} {f : Lit → Bool} (h : l[t]? = some x) (hf : f x = true) : (l.take (t + 1)).filter (fun x => !f x) = (l.take t).filter fun x => !f x := by
  rw [List.take_add_one, h, List.filter_append]
  simp [hf]
theorem flt_keep {l : List Lit} {t : Nat} {x : Lit} {f : Lit → Bool} (h : l[t]? = some x) (hf : f x = false) : (l.take (t + 1)).filter (fun x => !f x) = ((l.take t).filter fun x => !f x) ++ [x] := by
  rw [List.take_add_one, h, List.filter_append]
  simp [hf]
theorem flt_none {l : List Lit} {f : Lit → Bool} (h : l.any f = false) : l.filter (fun x => !f x) = l := by
  rw [List.any_eq_false] at h
  rw [List.filter_eq_self]
  intro a ha
  simp [h a ha]
theorem gr_row {w0 w w' : World} {g : Nat} (h : Gr w0 w) (k : Fr (fun b => b = g) w w') (hg : w0.heap.size ≤ g) : Gr w0 w' := h.step k fun b _ e => by rw [e]; exact hg
theorem RowL.gr {w w' : World} {B g n cap : Nat} {l : List Lit} (h : RowL w B g n cap l) (k : Gr w w') : RowL w' B g n cap l := rw_keep h fun b e => by
  cases e
  exact k.fr.keep g (rw_lt h g rfl).2 id

set_option maxRecDepth 100000 in
set_option maxHeartbeats 2000000 in
theorem delete1 (w w0 : World) (B g n cap : Nat) (l : List Lit) (kv : Value) (f : Lit → Bool) (row : RowL w B g n cap l) (hn : n ≤ 100000) (hk : Fc kv f w0) (h0 : Gr w0 w) (hB : w0.heap.size ≤ B) :
    Calls Tryd.prog 36 #[.slice (some ⟨g, 0, none⟩) n cap, kv] w fun e w' => ∃ m, e = .returned (.slice (some ⟨g, 0, none⟩) m cap) ∧ RowL w' B g m cap (l.filter fun x => !f x) ∧ Gr w0 w' := by
  have hl := row.len
  have hcp := row.cap_le
  have hg := (rw_lt row g rfl).2
  have hgB := (rw_lt row g rfl).1
  have HX := Lib.hid (indexFunc2 w w0 (some ⟨g, 0, none⟩) n cap l kv f hl (by unfold maxLen; omega) (Cs.own row) hk h0)
  obtain ⟨F, cb, rfl, eg, hcall⟩ := hk.call
  have HL := Lib.hid hl
  have HR := Lib.hid row
  have H0 := Lib.hid h0
  have HK := Lib.hid hcall
  clear hl row h0 hk hcall
  go_enter Tryd.func36, Tryd.ntmps36
  go_wp2_with fail
  refine HX.out.mono ?_
  rintro e w2 ⟨r, rfl, hr, G2⟩
  have HG2 := Lib.hid (H0.out.trans G2)
  have HR2 := Lib.hid (HR.out.gr G2)
  clear G2
  rcases hr with ⟨rfl, hr⟩ | ⟨t0, x, rfl, hx, hfx, hall⟩
  · have HA := Lib.hid (flt_none hr)
    clear hr
    go_wp2
    go_ret
    exact ⟨n, rfl, by rw [HA.out]; exact HR2.out, HG2.out⟩
  · have ht0 : t0 < n := by have := (List.getElem?_eq_some_iff.1 hx).1; rw [HL.out] at this; exact this
    have hft : Hid ((l.take (t0 + 1)).filter (fun x => !f x) = l.take t0) := by rw [flt_skip hx hfx, flt_none hall]; exact rfl
    have HI0 : Hid (RowL w2 B g n cap (mid ((l.take (t0 + 1)).filter fun x => !f x) l)) := by
      rw [hft.out, mid_start (by rw [HL.out]; omega)]
      exact HR2.out
    have HK0 : Hid (t0 = ((l.take (t0 + 1)).filter fun x => !f x).length) := by rw [hft.out, List.length_take, HL.out, Nat.min_eq_left (by omega)]; exact rfl
    have hne1 : ((t0 : Int) == -1) = false := beq_eq_false_iff_ne.2 (by omega)
    clear hx hfx hall
    go_wp2_with fail
    go_loopw [5, 6] (fun s5 s6 wr => ∃ i j : Nat, s5 = .int .i64 i ∧ s6 = .int .i64 j ∧ j ≤ n ∧ i < j ∧ Hid (i = ((l.take j).filter fun x => !f x).length) ∧ Hid (RowL wr B g n cap (mid ((l.take j).filter fun x => !f x) l)) ∧ Hid (Gr w0 wr)) (fun _ s6 _ => n - (intOf s6).toNat)
    case atStart => exact ⟨t0, t0 + 1, rfl, by go_num, by omega, by omega, HK0, HI0, HG2⟩
    case round =>
      obtain ⟨i, j, rfl, rfl, hjn, hij, hK, hI, hG⟩ := hrel
      have hlow : ∀ q, i ≤ q → (mid ((l.take j).filter fun x => !f x) l)[q]? = l[q]? := fun q hq => mid_low (by rw [← hK.out]; exact hq)
      have hgw := (rw_lt hI.out g rfl).2
      by_cases hlt : j < n
      · obtain ⟨u, hu⟩ : ∃ u, l[j]? = some u := ⟨_, List.getElem?_eq_getElem (by rw [HL.out]; omega)⟩
        obtain ⟨o, ho⟩ : ∃ o, l[i]? = some o := ⟨_, List.getElem?_eq_getElem (by rw [HL.out]; omega)⟩
        have c1 := hI.out.c1 ((hlow _ (by omega)).trans hu)
        have c2 := hI.out.c2 ((hlow _ (by omega)).trans hu)
        have HU := Lib.hid hu
        have HO := Lib.hid ((hlow _ (Nat.le_refl _)).trans ho)
        have HG3 := Lib.hid (hG.out.alloc (.cells #[.int .i64 u.1, .bool u.2] 38))
        have HGL := Lib.hid ((Gr.refl wr).alloc (.cells #[.int .i64 u.1, .bool u.2] 38))
        have HBX := Lib.hid (Bk.made wr 38 #[.int .i64 u.1, .bool u.2])
        have HCL := Lib.hid (HK.out u _ HG3.out)
        obtain ⟨u1, u2⟩ := u
        obtain ⟨o1, o2⟩ := o
        clear hu ho hlow
        simp only at *
        go_wp2_with fail
        refine HCL.out.mono ?_
        rintro e w4 ⟨rfl, G4⟩
        have HG4 := Lib.hid (HG3.out.trans G4)
        have HR4 := Lib.hid ((hI.out.gr HGL.out).gr G4)
        have hb4 := G4.fr.bk HBX.out id
        have d1 : w4.cell? ⟨wr.heap.size, 0, none⟩ = some (.int .i64 u1) := (hb4.cell 0).trans rfl
        have d2 : w4.cell? ⟨wr.heap.size, 1, none⟩ = some (.bool u2) := (hb4.cell 1).trans rfl
        clear G4 hb4 HCL HBX HGL c1 c2
        cases hf : f (u1, u2)
        · have e1 := HR4.out.c1 HO.out
          have e2 := HR4.out.c2 HO.out
          have f1 := HR4.out.fz (i * 2)
          have f2 := HR4.out.fz (i * 2 + 1)
          have HI2 : Hid (RowL ((w4.setCell ⟨g, i * 2, none⟩ (.int .i64 u1)).setCell ⟨g, i * 2 + 1, none⟩ (.bool u2)) B g n cap (mid ((l.take (j + 1)).filter fun x => !f x) l)) := by
            have h9 := HR4.out.put HO.out (u1, u2)
            rw [flt_keep HU.out hf, ← mid_put (by rw [← hK.out, HL.out]; omega), ← hK.out]
            exact h9
          have HF2 : Hid (Gr w0 ((w4.setCell ⟨g, i * 2, none⟩ (.int .i64 u1)).setCell ⟨g, i * 2 + 1, none⟩ (.bool u2))) := gr_row (g := g) HG4.out (Fr.trans (Fr.set _ _ _ rfl) (Fr.set _ _ _ rfl)) (by omega)
          have HK2 : Hid (i + 1 = ((l.take (j + 1)).filter fun x => !f x).length) := by rw [flt_keep HU.out hf, List.length_append, ← hK.out]; exact rfl
          clear hf
          simp only at e1 e2
          go_wp2
          go_roundw
          case rel => exact ⟨i + 1, j + 1, by go_num, by go_num, by omega, by omega, HK2, HI2, HF2⟩
          case measure => simp [intOf]; omega
        · have HI2 : Hid (RowL w4 B g n cap (mid ((l.take (j + 1)).filter fun x => !f x) l)) := by rw [flt_skip HU.out hf]; exact HR4
          have HK2 : Hid (i = ((l.take (j + 1)).filter fun x => !f x).length) := by rw [flt_skip HU.out hf]; exact hK
          clear hf
          go_wp2
          go_roundw
          case rel => exact ⟨i, j + 1, rfl, by go_num, by omega, by omega, HK2, HI2, HG4⟩
          case measure => simp [intOf]; omega
      · obtain rfl : j = n := by omega
        obtain ⟨zs, hz⟩ : ∃ zs : Nat → List Value, ∀ ty, (Builtin.clear_ #[23] ty #[.slice (some ⟨g, i * 2, none⟩) (j - i) (cap - i)]).run Tryd.prog wr = .ok (.tuple #[]) (wr.setCells g (i * 2) (zs ty)) := by
          refine ⟨fun ty => (run_clear wr ty g (i * 2) (j - i) (cap - i) (by omega) hI.out (by omega)).choose, fun ty => ?_⟩
          exact (run_clear wr ty g (i * 2) (j - i) (cap - i) (by omega) hI.out (by omega)).choose_spec
        clear hlow
        go_wp2
        go_ret
        obtain ⟨hr9, hf9⟩ := hI.out.cut (k := i) (o := i * 2) (by omega) (zs 0) (Nat.le_refl _)
        rw [hK.out, mid_take, ← hK.out, List.take_of_length_le (by rw [HL.out]; omega)] at hr9
        exact ⟨i, rfl, hr9, gr_row (g := g) hG.out hf9 (by omega)⟩

theorem delete_any (w w0 : World) (B n : Nat) (v : Value) (l : List Lit) (kv : Value) (f : Lit → Bool) (row : w.ownsRow B 38 2 v n (l.flatMap lc)) (hn : n ≤ 100000) (hk : Fc kv f w0) (h0 : Gr w0 w) (hB : w0.heap.size ≤ B) :
    Calls Tryd.prog 36 #[v, kv] w fun e w' => ∃ v' m, e = .returned v' ∧ w'.ownsRow B 38 2 v' m ((l.filter fun x => !f x).flatMap lc) ∧ Gr w0 w' := by
  by_cases hn0 : n = 0
  · subst hn0
    have hl := row.1
    rw [flat_len (k := 2) (fun _ => rfl)] at hl
    have hl0 : l = [] := List.length_eq_zero_iff.1 (by omega)
    subst hl0
    obtain ⟨A, c, rfl⟩ := rw_form row
    have HX := Lib.hid (indexFunc2 w w0 A 0 c [] kv f rfl (by unfold maxLen; omega) Cs.nil hk h0)
    obtain ⟨F, cb, rfl, eg, hcall⟩ := hk.call
    have HR := Lib.hid row
    have H0 := Lib.hid h0
    clear row hl hn hk hcall h0 eg
    go_enter Tryd.func36, Tryd.ntmps36
    go_wp2_with fail
    refine HX.out.mono ?_
    rintro e w2 ⟨r, rfl, hr, G2⟩
    have HG2 := Lib.hid (H0.out.trans G2)
    have HR2 : Hid (w2.ownsRow B 38 2 (.slice A 0 c) 0 []) := rw_keep HR.out fun b e => G2.fr.keep b (rw_lt HR.out b e).2 id
    obtain ⟨rfl, _⟩ | ⟨t, x, _, hx, _⟩ := hr
    · clear G2
      go_wp2
      go_ret
      exact ⟨_, 0, rfl, HR2.out, HG2.out⟩
    · cases hx
  · obtain ⟨g, cap, rfl⟩ := RowL.some_of row (by omega)
    refine (delete1 w w0 B g n cap l kv f row hn hk h0 hB).mono ?_
    rintro e w' ⟨m, rfl, h1, h2⟩
    exact ⟨_, m, rfl, h1, h2⟩
end Go.Proofs.YtgnlbmamolbcfaaDoor
