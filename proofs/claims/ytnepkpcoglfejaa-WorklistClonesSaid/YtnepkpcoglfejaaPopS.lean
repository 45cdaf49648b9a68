/- Pop. -/
import Derived.Test.YtnepkpcoglfejaaDownS
import Derived.Test.YtnepkpcoglfejaaPeekS
namespace Go.Proofs.Ytnepkpcoglfejaa
open Go.RowKit

theorem cutS {w : World} {B g n m cp : Nat} {l : List (ByteArray × Int)} (h : w.ownsRow B 92 2 (.slice (some ⟨g, 0, none⟩) n cp) n (l.flatMap encES)) (hl : l.length = n) (hm : m ≤ n) : w.ownsRow B 92 2 (.slice (some ⟨g, 0, none⟩) m cp) m ((l.take m).flatMap encES) := by
  have hF : ∀ a, (encES a).length = 2 := fun _ => rfl
  obtain ⟨h1, ⟨h2, _⟩ | ⟨g', cap, cur, hv, hB, hh, hc, hx, hs, ht⟩⟩ := h
  · cases h2
  · injection hv with hv hv2 hv3
    injection hv with hv
    injection hv with hv
    subst hv
    subst hv3
    refine ⟨by rw [flat_len hF, List.length_take, hl, Nat.min_eq_left hm], .inr ⟨g, cp, cur, rfl, hB, hh, by omega, hx, hs, ?_⟩⟩
    have e : cur.toList.take (m * 2) = (cur.toList.take (n * 2)).take (m * 2) := by rw [List.take_take, Nat.min_eq_left (by omega)]
    rw [e, ht]
    have e2 : l.flatMap encES = (l.take m).flatMap encES ++ (l.drop m).flatMap encES := by rw [← List.flatMap_append, List.take_append_drop]
    rw [e2, List.take_append_of_le_length (by rw [flat_len hF, List.length_take, hl, Nat.min_eq_left hm]; exact Nat.le_refl _), List.take_of_length_le (by rw [flat_len hF, List.length_take, hl, Nat.min_eq_left hm]; exact Nat.le_refl _)]

section
variable {ok : ByteArray → Prop} {lt : ByteArray → ByteArray → Bool} {fv : Value} {c : Nat → Prop} {J : Nat → World → Prop} {R : World → World → Prop}
set_option maxRecDepth 100000 in
set_option maxHeartbeats 1600000 in
theorem popS (L : Lc Try.prog encXS ok lt fv c J R) (w : World) (p B N k : Nat) (hv : Value) (E : List (ByteArray × Int)) (h : WlS w p B fv hv lt E N) (hp : ¬ c p) (hg : ∀ b, hv.ownBlock = some b → ¬ c b) (ho : ∀ e ∈ E, ok e.1) (hn : E.length ≤ 1000000) (hJ : J k w) :
    Calls Try.prog 33 #[.pointer (some ⟨p, 0, none⟩)] w fun e w' => e = .returned (.tuple #[encXS (hdS E), .bool !E.isEmpty]) ∧ ∃ hv', WlS w' p B fv hv' lt E.tail N ∧ hv'.ownBlock = hv.ownBlock ∧ J (k + 4 * dg E.length) w' ∧ Fr (fun b => c b ∨ hv.ownBlock = some b ∨ b = p) w w' := by
  have HLC := Lib.hid L
  clear L
  have HPK := Lib.hid fun W (hW : WlS W p B fv hv lt E N) => peekS W p B N fv hv lt HLC.out.ord E hW
  cases E with
  | nil =>
    have HW := Lib.hid h
    have hpl : p < w.heap.size := h.bd.1
    clear h
    go_enter Try.func33, Try.ntmps33
    go_wp2_with fail
    refine (HPK.out _ HW.out).mono ?_
    rintro e w1 ⟨rfl, hF⟩
    simp only [hdS, encXS, List.isEmpty_nil, Bool.not_true]
    go_wp2
    go_returns
    exact ⟨rfl, hv, HW.out.fr hF (fun h => h) (fun _ _ h => h), rfl, HLC.out.mono (HLC.out.stay hJ fun b hb => hF.keep b (HLC.out.bnd hJ hb) (fun h => h)) (by omega), hF.wide fun _ _ h => h.elim⟩
  | cons r E =>
    have HW := Lib.hid h
    obtain ⟨g, cp, rfl⟩ := h.block (by simp)
    obtain ⟨hs, h1, h2⟩ := h
    have hl := h2.len
    rw [List.length_cons] at hl
    obtain ⟨n, hN⟩ : ∃ n, E.length = n := ⟨_, rfl⟩
    rw [hN] at hl
    obtain ⟨x, hx⟩ : ∃ x, hs[n]? = some x := ⟨_, List.getElem?_eq_getElem (by omega)⟩
    obtain ⟨r', hr⟩ : ∃ r, hs[0]? = some r := ⟨_, List.getElem?_eq_getElem (by omega)⟩
    obtain ⟨E', hE⟩ := h2.head (bfr_ord HLC.out.ord) hr
    injection hE with hE1 hE2
    subst hE1
    clear hE2
    have hpg : ¬ p = g := fun e => rw_ne h1.row h1.hd (by decide) (e ▸ rfl)
    have hgp : ¬ g = p := fun e => hpg e.symm
    have HGB := Lib.hid (hg g rfl)
    have HH1 := Lib.hid h1
    have HH2 := Lib.hid h2
    have HX := Lib.hid hx
    have HR := Lib.hid hr
    have HHL := Lib.hid hl
    have HN := Lib.hid hN
    clear h1 h2 hx hr hl hN hg
    go_enter Try.func33, Try.ntmps33
    go_wp2_with fail
    refine (HPK.out _ HW.out).mono ?_
    rintro e w1 ⟨rfl, hF⟩
    simp only [hdS, encXS, List.isEmpty_cons, Bool.not_false]
    have hL1 : LsS w1 p B fv (.slice (some ⟨g, 0, none⟩) (r :: E).length cp) N hs := HH1.out.fr hF (fun h => h) (fun _ _ h => h)
    have hlr : (r :: E).length = n + 1 := by rw [List.length_cons, HN.out]
    rw [hlr] at hL1
    have HLR := Lib.hid hlr
    obtain ⟨n1, hm1⟩ : ∃ n1, n + 1 = n1 := ⟨_, rfl⟩
    rw [hm1] at hL1
    have hm2 : n < n1 := by omega
    have hm3 : (n1 : Int) - 1 = (n : Int) := by omega
    have hm4 : 0 < n1 := by omega
    have hJ1 : J k w1 := HLC.out.stay hJ fun b hb => hF.keep b (HLC.out.bnd hJ hb) (fun h => h)
    have ch : w1.cell? ⟨p, 1, none⟩ = some (.slice (some ⟨g, 0, none⟩) n1 cp) := (hL1.hd.cell 1).trans rfl
    have h2 := hL1.row
    rw [HHL.out, hm1] at h2
    have hx := HX.out
    have hr := HR.out
    obtain ⟨x1, xn⟩ := x
    obtain ⟨r1, rn⟩ := r
    have cx1 : w1.cell? ⟨g, n * 2, none⟩ = some (.string x1) := row_cell (F := encES) (k := 2) (j := 0) (fun _ => rfl) h2 hx (by decide)
    have cx2 : w1.cell? ⟨g, n * 2 + 1, none⟩ = some (.int .i64 xn) := row_cell (F := encES) (k := 2) (j := 1) (fun _ => rfl) h2 hx (by decide)
    have cr1 : w1.cell? ⟨g, 0 * 2, none⟩ = some (.string r1) := row_cell (F := encES) (k := 2) (j := 0) (fun _ => rfl) h2 hr (by decide)
    have cr2 : w1.cell? ⟨g, 0 * 2 + 1, none⟩ = some (.int .i64 rn) := row_cell (F := encES) (k := 2) (j := 1) (fun _ => rfl) h2 hr (by decide)
    simp only [Nat.zero_mul, Nat.zero_add] at cr1 cr2
    have hgb : ∃ cur, Bk w1 g 92 cur := rw_bk h2 g rfl
    have hfz : ∀ j, w1.frozen? ⟨g, j, none⟩ = false := fun j => by obtain ⟨cur, hh⟩ := hgb; exact hh.frozen j
    have fx1 := hfz (n * 2)
    have fx2 := hfz (n * 2 + 1)
    have fr1 := hfz (0 * 2)
    have fr2 := hfz (0 * 2 + 1)
    simp only [Nat.zero_mul, Nat.zero_add] at fr1 fr2
    have fp : w1.frozen? ⟨p, 1, none⟩ = false := hL1.hd.frozen 1
    have HL1 := Lib.hid hL1
    have hn1 : n1 ≤ 1000001 := by have := HN.out; have h9 := hn; rw [List.length_cons] at h9; omega
    have hcp : n ≤ cp := by
      obtain ⟨_, ⟨h9, _⟩ | ⟨g', cap, cur, hv, _, _, h9, _⟩⟩ := h2
      · cases h9
      · injection hv with _ _ hv
        subst hv
        omega
    have HM := Lib.hid hm1
    clear hL1 h2 hgb hfz hx hr hn hlr hm1
    go_wp2_with fail
    go_region
    change Exit.then _ _ _ _ (putS w1 g 0 (x1, xn)).drew
    have hL2 : LsS (putS w1 g 0 (x1, xn)).drew p B fv (.slice (some ⟨g, 0, none⟩) n1 cp) N (hs.set 0 (x1, xn)) := by
      have h2 := HL1.out.row
      rw [HHL.out, HM.out] at h2
      refine ⟨(((putS_fr (X := fun b => b = g) w1 g 0 (x1, xn) rfl).trans (Fr.drew _ _)).bk HL1.out.hd hpg), ?_⟩
      rw [List.length_set, HHL.out, HM.out]
      exact rw_drew (putS_row h2 HR.out)
    have hF2 : Fr (fun b => b = g) w1 (putS w1 g 0 (x1, xn)).drew := (putS_fr (X := fun b => b = g) w1 g 0 (x1, xn) rfl).trans (Fr.drew _ _)
    clear ch cx1 cx2 cr1 cr2 fx1 fx2 fr1 fr2 fp HL1
    generalize (putS w1 g 0 (x1, xn)).drew = w2 at *
    have HX2 : Hid ((hs.set 0 (x1, xn))[n]? = some (x1, xn)) := by
      rw [List.getElem?_set]
      split
      · rename_i e
        rw [if_pos (by rw [HHL.out]; omega)]
        exact rfl
      · exact HX.out
    have ch : w2.cell? ⟨p, 1, none⟩ = some (.slice (some ⟨g, 0, none⟩) n1 cp) := (hL2.hd.cell 1).trans rfl
    have fp : w2.frozen? ⟨p, 1, none⟩ = false := hL2.hd.frozen 1
    have h2 := hL2.row
    rw [List.length_set, HHL.out, HM.out] at h2
    have cx1 : w2.cell? ⟨g, n * 2, none⟩ = some (.string x1) := row_cell (F := encES) (k := 2) (j := 0) (fun _ => rfl) h2 HX2.out (by decide)
    have cx2 : w2.cell? ⟨g, n * 2 + 1, none⟩ = some (.int .i64 xn) := row_cell (F := encES) (k := 2) (j := 1) (fun _ => rfl) h2 HX2.out (by decide)
    have hgb : ∃ cur, Bk w2 g 92 cur := rw_bk h2 g rfl
    have hfz : ∀ j, w2.frozen? ⟨g, j, none⟩ = false := fun j => by obtain ⟨cur, hh⟩ := hgb; exact hh.frozen j
    have fx1 := hfz (n * 2)
    have fx2 := hfz (n * 2 + 1)
    have HH := Lib.hid h2
    have HL2 := Lib.hid hL2
    clear hgb hfz h2 hL2
    go_wp2_with fail
    change Calls _ _ _ ((putS w2 g n (ByteArray.empty, 0)).setCell ⟨p, 1, none⟩ (.slice (some ⟨g, 0, none⟩) n cp)) _
    clear ch fp cx1 cx2 fx1 fx2
    have hln : ((hs.set 0 (x1, xn)).take n).length = n := by rw [List.length_take, List.length_set, HHL.out]; omega
    have hL3 : LsS ((putS w2 g n (ByteArray.empty, 0)).setCell ⟨p, 1, none⟩ (.slice (some ⟨g, 0, none⟩) n cp)) p B fv (.slice (some ⟨g, 0, none⟩) ((hs.set 0 (x1, xn)).take n).length cp) N ((hs.set 0 (x1, xn)).take n) := by
      rw [hln]
      refine ⟨Bk.put ((putS_fr (X := fun b => b = g) w2 g n (ByteArray.empty, 0) rfl).bk HL2.out.hd hpg) 1 _, ?_⟩
      rw [hln]
      have h3 := putS_row (b := (ByteArray.empty, 0)) HH.out HX2.out
      have h4 := cutS h3 (by rw [List.length_set, List.length_set, HHL.out, HM.out]) (show n ≤ n1 by omega)
      rw [List.take_set, List.set_eq_of_length_le (by rw [hln]; exact Nat.le_refl _)] at h4
      refine rw_keep h4 fun b e => ?_
      cases e
      exact Below.heap_setCell _ _ _ _ hgp
    have hF3 : Fr (fun b => c b ∨ b = g ∨ b = p) w1 ((putS w2 g n (ByteArray.empty, 0)).setCell ⟨p, 1, none⟩ (.slice (some ⟨g, 0, none⟩) n cp)) :=
      (hF2.wide fun _ _ h => .inr (.inl h)).trans ((putS_fr (X := fun b => c b ∨ b = g ∨ b = p) w2 g n (ByteArray.empty, 0) (.inr (.inl rfl))).trans (Fr.set _ _ _ (.inr (.inr rfl))))
    have hJ3 : J k ((putS w2 g n (ByteArray.empty, 0)).setCell ⟨p, 1, none⟩ (.slice (some ⟨g, 0, none⟩) n cp)) := HLC.out.stay hJ1 fun b hb => by
      have hF9 : Fr (fun b => b = g ∨ b = p) w1 ((putS w2 g n (ByteArray.empty, 0)).setCell ⟨p, 1, none⟩ (.slice (some ⟨g, 0, none⟩) n cp)) :=
        (hF2.wide fun _ _ h => .inl h).trans ((putS_fr (X := fun b => b = g ∨ b = p) w2 g n (ByteArray.empty, 0) (.inl rfl)).trans (Fr.set _ _ _ (.inr rfl)))
      exact hF9.keep b (HLC.out.bnd hJ1 hb) (fun h => h.elim (fun e => HGB.out (e ▸ hb)) (fun e => hp (e ▸ hb)))
    generalize (putS w2 g n (ByteArray.empty, 0)).setCell ⟨p, 1, none⟩ (.slice (some ⟨g, 0, none⟩) n cp) = w3 at *
    have hpp := pop_perm HR.out HX.out HHL.out
    have hok3 : ∀ e ∈ (hs.set 0 (x1, xn)).take n, ok e.1 := fun e he => ho e (HH2.out.perm.mem_iff.1 (hpp.mem_iff.1 (List.mem_cons_of_mem _ he)))
    refine (downS HLC.out p B g cp N _ k w3 hL3 hp HGB.out hok3 (by rw [hln]; omega) (pop_down HH2.out.ok) hJ3).mono ?_
    rintro e w5 ⟨rfl, hs5, hL5, hpm5, hok5, j5, hF5⟩
    rw [hln] at j5
    go_wp2
    go_returns
    obtain ⟨S', hS1, hS2⟩ := HH2.out.popped HLC.out.ord HR.out ((hpm5.cons _).trans hpp) hok5
    injection hS1 with _ hS1
    subst hS1
    have hdg := dg_mono (show n ≤ n + 1 by omega)
    refine ⟨rfl, _, ⟨hs5, hL5, hS2⟩, rfl, HLC.out.mono j5 (by rw [HN.out]; omega), ?_⟩
    exact ((hF.wide fun _ _ h => h.elim).trans (hF3.wide fun b _ h => h.elim .inl fun h => h.elim (fun e => .inr (.inl (congrArg some (Eq.symm e)))) fun e => .inr (.inr e))).trans (hF5.wide fun b _ h => h.elim .inl fun e => .inr (.inl (congrArg some (Eq.symm e))))
end

end Go.Proofs.Ytnepkpcoglfejaa
