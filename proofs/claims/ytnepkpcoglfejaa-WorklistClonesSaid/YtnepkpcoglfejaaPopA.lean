/- Pop. -/
import Derived.Test.YtnepkpcoglfejaaDownA
import Derived.Test.YtnepkpcoglfejaaPeekA
namespace Go.Proofs.Ytnepkpcoglfejaa
open Go.RowKit

theorem cutA {w : World} {B g n m cp : Nat} {l : List ((Int × Int) × Int)} (h : w.ownsRow B 73 3 (.slice (some ⟨g, 0, none⟩) n cp) n (l.flatMap encEA)) (hl : l.length = n) (hm : m ≤ n) : w.ownsRow B 73 3 (.slice (some ⟨g, 0, none⟩) m cp) m ((l.take m).flatMap encEA) := by
  have hF : ∀ a, (encEA a).length = 3 := fun _ => rfl
  obtain ⟨h1, ⟨h2, _⟩ | ⟨g', cap, cur, hv, hB, hh, hc, hx, hs, ht⟩⟩ := h
  · cases h2
  · injection hv with hv hv2 hv3
    injection hv with hv
    injection hv with hv
    subst hv
    subst hv3
    refine ⟨by rw [flat_len hF, List.length_take, hl, Nat.min_eq_left hm], .inr ⟨g, cp, cur, rfl, hB, hh, by omega, hx, hs, ?_⟩⟩
    have e : cur.toList.take (m * 3) = (cur.toList.take (n * 3)).take (m * 3) := by rw [List.take_take, Nat.min_eq_left (by omega)]
    rw [e, ht]
    have e2 : l.flatMap encEA = (l.take m).flatMap encEA ++ (l.drop m).flatMap encEA := by rw [← List.flatMap_append, List.take_append_drop]
    rw [e2, List.take_append_of_le_length (by rw [flat_len hF, List.length_take, hl, Nat.min_eq_left hm]; exact Nat.le_refl _), List.take_of_length_le (by rw [flat_len hF, List.length_take, hl, Nat.min_eq_left hm]; exact Nat.le_refl _)]

section
variable {ok : (Int × Int) → Prop} {lt : (Int × Int) → (Int × Int) → Bool} {fv : Value} {c : Nat → Prop} {J : Nat → World → Prop} {R : World → World → Prop}
set_option maxRecDepth 100000 in
set_option maxHeartbeats 1600000 in
theorem popA (L : Lc Try.prog encXA ok lt fv c J R) (w : World) (p B N k : Nat) (hv : Value) (E : List ((Int × Int) × Int)) (h : WlA w p B fv hv lt E N) (hp : ¬ c p) (hg : ∀ b, hv.ownBlock = some b → ¬ c b) (ho : ∀ e ∈ E, ok e.1) (hn : E.length ≤ 1000000) (hJ : J k w) :
    Calls Try.prog 13 #[.pointer (some ⟨p, 0, none⟩)] w fun e w' => e = .returned (.tuple #[encXA (hdA E), .bool !E.isEmpty]) ∧ ∃ hv', WlA w' p B fv hv' lt E.tail N ∧ hv'.ownBlock = hv.ownBlock ∧ J (k + 4 * dg E.length) w' ∧ Fr (fun b => c b ∨ hv.ownBlock = some b ∨ b = p) w w' := by
  have HLC := Lib.hid L
  clear L
  have HPK := Lib.hid fun W (hW : WlA W p B fv hv lt E N) => peekA W p B N fv hv lt HLC.out.ord E hW
  cases E with
  | nil =>
    have HW := Lib.hid h
    have hpl : p < w.heap.size := h.bd.1
    clear h
    go_enter Try.func13, Try.ntmps13
    go_wp2_with fail
    refine (HPK.out _ (HW.out.fr (Fr.alloc (fun _ => False) _ _) (fun h => h) (fun _ _ h => h))).mono ?_
    rintro e w1 ⟨rfl, hF0⟩
    simp only [hdA, encXA, List.isEmpty_nil, Bool.not_true]
    have hF : Fr (fun _ => False) w w1 := (Fr.alloc _ _ _).trans hF0
    have hq : Bk w1 w.heap.size 27 #[.int .i64 0, .int .i64 0] := hF0.bk (Bk.made _ _ _) (fun h => h)
    clear hF0
    have HQ0 : Hid (∀ b, b < w.heap.size → b ≠ w.heap.size) := fun b h e => Nat.lt_irrefl _ (e ▸ h)
    have HPL : Hid (p ≠ w.heap.size ∧ ∀ b, hv.ownBlock = some b → b ≠ w.heap.size) := ⟨HQ0.out p HW.out.bd.1, fun b e => HQ0.out b (HW.out.bd.2 b e).2⟩
    have HB : Hid (∀ b, c b → b ≠ w.heap.size) := fun b h => HQ0.out b (HLC.out.bnd hJ h)
    have HQ1 : Hid (∀ b, b < w.heap.size → b = w.heap.size → False) := fun b h e => HQ0.out b h e
    clear HQ0
    obtain ⟨q, hq0⟩ : ∃ q, w.heap.size = q := ⟨_, rfl⟩
    rw [hq0] at hq HQ1 HPL HB hpl ⊢
    have cq1 : w1.cell? ⟨q, 0, none⟩ = some (.int .i64 0) := (hq.cell 0).trans rfl
    have cq2 : w1.cell? ⟨q, 1, none⟩ = some (.int .i64 0) := (hq.cell 1).trans rfl
    have fq1 : w1.frozen? ⟨q, 0, none⟩ = false := hq.frozen 0
    have fq2 : w1.frozen? ⟨q, 1, none⟩ = false := hq.frozen 1
    have hql : q < w1.heap.size := hq.lt
    have hq9 : Bk (((w1.setCell ⟨q, 0, none⟩ (.int .i64 0)).setCell ⟨q, 1, none⟩ (.int .i64 0)).alloc (.cells #[.int .i64 0, .int .i64 0] 27)) q 27 #[.int .i64 0, .int .i64 0] := (Bk.put (Bk.put hq 0 _) 1 _).alloc _
    have hF9 : Fr (fun b => b = q) w1 (((w1.setCell ⟨q, 0, none⟩ (.int .i64 0)).setCell ⟨q, 1, none⟩ (.int .i64 0)).alloc (.cells #[.int .i64 0, .int .i64 0] 27)) := ((Fr.set (X := fun b => b = q) _ _ _ rfl).trans (Fr.set (X := fun b => b = q) _ _ _ rfl)).trans (Fr.alloc _ _ _)
    have HQ9 := Lib.hid hq9
    have HF9 := Lib.hid hF9
    clear hq9 hF9 hq
    go_wp2
    clear cq1 cq2 fq1 fq2 hql
    generalize ((w1.setCell ⟨q, 0, none⟩ (.int .i64 0)).setCell ⟨q, 1, none⟩ (.int .i64 0)).alloc (.cells #[.int .i64 0, .int .i64 0] 27) = w9 at *
    have hq9 := HQ9.out
    have cq1 : w9.cell? ⟨q, 0, none⟩ = some (.int .i64 0) := (hq9.cell 0).trans rfl
    have cq2 : w9.cell? ⟨q, 1, none⟩ = some (.int .i64 0) := (hq9.cell 1).trans rfl
    clear hq9
    refine bodyPost_ret (v := .tuple #[.agg #[.int .i64 0, .int .i64 0], .bool false]) (by simp [results, Try.results13, go_sem, cq1, cq2]) rfl ?_
    have hFF : Fr (fun b => b = q) w w9 := (hF.wide fun _ _ h => h.elim).trans HF9.out
    exact ⟨rfl, hv, HW.out.fr hFF HPL.out.1 HPL.out.2, rfl, HLC.out.mono (HLC.out.stay hJ fun b hb => hFF.keep b (HLC.out.bnd hJ hb) (HB.out b hb)) (by omega), hFF.wide fun b h e => (HQ1.out b (by omega) e).elim⟩
  | cons r E =>
    have HW := Lib.hid h
    obtain ⟨g, cp, rfl⟩ := h.block (by simp)
    obtain ⟨hs, h1, h2⟩ := h
    have hl := h2.len
    rw [List.length_cons] at hl
    obtain ⟨n, hN⟩ : ∃ n, E.length = n := ⟨_, rfl⟩
    rw [hN] at hl
    obtain ⟨x, hx⟩ : ∃ x, hs[n]? = some x := ⟨_, List.getElem?_eq_getElem (by omega)⟩
    obtain ⟨r', hr⟩ : ∃ r, hs[0]? = some r := ⟨_, List.getElem?_eq_getElem (by omega)⟩
    obtain ⟨E', hE⟩ := h2.head (bfr_ord HLC.out.ord) hr
    injection hE with hE1 hE2
    subst hE1
    clear hE2
    have hpg : ¬ p = g := fun e => rw_ne h1.row h1.hd (by decide) (e ▸ rfl)
    have hgp : ¬ g = p := fun e => hpg e.symm
    have HGB := Lib.hid (hg g rfl)
    have HH1 := Lib.hid h1
    have HH2 := Lib.hid h2
    have HX := Lib.hid hx
    have HR := Lib.hid hr
    have HHL := Lib.hid hl
    have HN := Lib.hid hN
    clear h1 h2 hx hr hl hN hg
    go_enter Try.func13, Try.ntmps13
    go_wp2_with fail
    refine (HPK.out _ (HW.out.fr (Fr.alloc (fun _ => False) _ _) (fun h => h) (fun _ _ h => h))).mono ?_
    rintro e w0 ⟨rfl, hF0⟩
    simp only [hdA, encXA, List.isEmpty_cons, Bool.not_false]
    obtain ⟨⟨r1, r2⟩, rn⟩ := r
    have HF1 : Hid (Fr (fun _ => False) w (w0.alloc (.cells #[.int .i64 r1, .int .i64 r2] 27))) := ((Fr.alloc _ _ _).trans hF0).trans (Fr.alloc _ _ _)
    have HQ : Hid (Bk (w0.alloc (.cells #[.int .i64 r1, .int .i64 r2] 27)) w.heap.size 27 #[.int .i64 0, .int .i64 0]) := (hF0.bk (Bk.made _ _ _) (fun h => h)).alloc _
    have HY : Hid (Bk (w0.alloc (.cells #[.int .i64 r1, .int .i64 r2] 27)) w0.heap.size 27 #[.int .i64 r1, .int .i64 r2]) := Bk.made _ _ _
    have HYQ : Hid (w.heap.size < w0.heap.size) := by have := hF0.size; simp at this; exact this
    have h0 : LsA w0 p B fv (.slice (some ⟨g, 0, none⟩) (((r1, r2), rn) :: E).length cp) N hs := HH1.out.fr ((Fr.alloc _ _ _).trans hF0) (fun h => h) (fun _ _ h => h)
    have hlr0 : (((r1, r2), rn) :: E).length = n + 1 := by rw [List.length_cons, HN.out]
    rw [hlr0] at h0
    have ch0 : w0.cell? ⟨p, 1, none⟩ = some (.slice (some ⟨g, 0, none⟩) (n + 1) cp) := (h0.hd.cell 1).trans rfl
    have hp0 : p < w0.heap.size := h0.hd.lt
    clear h0 hF0 hlr0
    have hnn : n ≤ 1000000 := by have := HN.out; have h9 := hn; rw [List.length_cons] at h9; omega
    have HWB : Hid (p < w.heap.size ∧ g < w.heap.size) := ⟨HH1.out.hd.lt, (rw_lt HH1.out.row g rfl).2⟩
    go_wp2_with fail
    clear ch0 hp0
    generalize w0.alloc (.cells #[.int .i64 r1, .int .i64 r2] 27) = w1 at *
    generalize w0.heap.size = y at *
    have hF := HF1.out
    clear HF1
    have hqn : Hid (∀ b, c b → b ≠ w.heap.size) := fun b h e => Nat.lt_irrefl _ (e ▸ HLC.out.bnd hJ h)
    obtain ⟨q, hq0⟩ : ∃ q, w.heap.size = q := ⟨_, rfl⟩
    have HQ0 := Lib.hid hq0
    rw [hq0] at HQ HYQ HWB hqn ⊢
    clear hq0
    have hL1 : LsA w1 p B fv (.slice (some ⟨g, 0, none⟩) (((r1, r2), rn) :: E).length cp) N hs := HH1.out.fr hF (fun h => h) (fun _ _ h => h)
    have hlr : (((r1, r2), rn) :: E).length = n + 1 := by rw [List.length_cons, HN.out]
    rw [hlr] at hL1
    have HLR := Lib.hid hlr
    obtain ⟨n1, hm1⟩ : ∃ n1, n + 1 = n1 := ⟨_, rfl⟩
    rw [hm1] at hL1
    have hm2 : n < n1 := by omega
    have hm3 : (n1 : Int) - 1 = (n : Int) := by omega
    have hm4 : 0 < n1 := by omega
    have hJ1 : J k w1 := HLC.out.stay hJ fun b hb => hF.keep b (HLC.out.bnd hJ hb) (fun h => h)
    have ch : w1.cell? ⟨p, 1, none⟩ = some (.slice (some ⟨g, 0, none⟩) n1 cp) := (hL1.hd.cell 1).trans rfl
    have h2 := hL1.row
    rw [HHL.out, hm1] at h2
    have hx := HX.out
    have hr := HR.out
    obtain ⟨⟨x1, x2⟩, xn⟩ := x
    have cx1 : w1.cell? ⟨g, n * 3, none⟩ = some (.int .i64 x1) := row_cell (F := encEA) (k := 3) (j := 0) (fun _ => rfl) h2 hx (by decide)
    have cx2 : w1.cell? ⟨g, n * 3 + 1, none⟩ = some (.int .i64 x2) := row_cell (F := encEA) (k := 3) (j := 1) (fun _ => rfl) h2 hx (by decide)
    have cx3 : w1.cell? ⟨g, n * 3 + 2, none⟩ = some (.int .i64 xn) := row_cell (F := encEA) (k := 3) (j := 2) (fun _ => rfl) h2 hx (by decide)
    have cr1 : w1.cell? ⟨g, 0 * 3, none⟩ = some (.int .i64 r1) := row_cell (F := encEA) (k := 3) (j := 0) (fun _ => rfl) h2 hr (by decide)
    have cr2 : w1.cell? ⟨g, 0 * 3 + 1, none⟩ = some (.int .i64 r2) := row_cell (F := encEA) (k := 3) (j := 1) (fun _ => rfl) h2 hr (by decide)
    have cr3 : w1.cell? ⟨g, 0 * 3 + 2, none⟩ = some (.int .i64 rn) := row_cell (F := encEA) (k := 3) (j := 2) (fun _ => rfl) h2 hr (by decide)
    simp only [Nat.zero_mul, Nat.zero_add] at cr1 cr2 cr3
    have hgb : ∃ cur, Bk w1 g 73 cur := rw_bk h2 g rfl
    have hfz : ∀ j, w1.frozen? ⟨g, j, none⟩ = false := fun j => by obtain ⟨cur, hh⟩ := hgb; exact hh.frozen j
    have fx1 := hfz (n * 3)
    have fx2 := hfz (n * 3 + 1)
    have fx3 := hfz (n * 3 + 2)
    have fr1 := hfz (0 * 3)
    have fr2 := hfz (0 * 3 + 1)
    have fr3 := hfz (0 * 3 + 2)
    simp only [Nat.zero_mul, Nat.zero_add] at fr1 fr2 fr3
    have fp : w1.frozen? ⟨p, 1, none⟩ = false := hL1.hd.frozen 1
    have HL1 := Lib.hid hL1
    have hn1 : n1 ≤ 1000001 := by have := HN.out; have h9 := hn; rw [List.length_cons] at h9; omega
    have hcp : n ≤ cp := by
      obtain ⟨_, ⟨h9, _⟩ | ⟨g', cap, cur, hv, _, _, h9, _⟩⟩ := h2
      · cases h9
      · injection hv with _ _ hv
        subst hv
        omega
    have HM := Lib.hid hm1
    clear hL1 h2 hgb hfz hx hr hn hlr hm1
    go_region
    change Exit.then _ _ _ _ (putA w1 g 0 ((x1, x2), xn)).drew
    have hL2 : LsA (putA w1 g 0 ((x1, x2), xn)).drew p B fv (.slice (some ⟨g, 0, none⟩) n1 cp) N (hs.set 0 ((x1, x2), xn)) := by
      have h2 := HL1.out.row
      rw [HHL.out, HM.out] at h2
      refine ⟨(((putA_fr (X := fun b => b = g) w1 g 0 ((x1, x2), xn) rfl).trans (Fr.drew _ _)).bk HL1.out.hd hpg), ?_⟩
      rw [List.length_set, HHL.out, HM.out]
      exact rw_drew (putA_row h2 HR.out)
    have hF2 : Fr (fun b => b = g) w1 (putA w1 g 0 ((x1, x2), xn)).drew := (putA_fr (X := fun b => b = g) w1 g 0 ((x1, x2), xn) rfl).trans (Fr.drew _ _)
    clear ch cx1 cx2 cx3 cr1 cr2 cr3 fx1 fx2 fx3 fr1 fr2 fr3 fp HL1
    generalize (putA w1 g 0 ((x1, x2), xn)).drew = w2 at *
    have HX2 : Hid ((hs.set 0 ((x1, x2), xn))[n]? = some ((x1, x2), xn)) := by
      rw [List.getElem?_set]
      split
      · rename_i e
        rw [if_pos (by rw [HHL.out]; omega)]
        exact rfl
      · exact HX.out
    have ch : w2.cell? ⟨p, 1, none⟩ = some (.slice (some ⟨g, 0, none⟩) n1 cp) := (hL2.hd.cell 1).trans rfl
    have fp : w2.frozen? ⟨p, 1, none⟩ = false := hL2.hd.frozen 1
    have h2 := hL2.row
    rw [List.length_set, HHL.out, HM.out] at h2
    have cx1 : w2.cell? ⟨g, n * 3, none⟩ = some (.int .i64 x1) := row_cell (F := encEA) (k := 3) (j := 0) (fun _ => rfl) h2 HX2.out (by decide)
    have cx2 : w2.cell? ⟨g, n * 3 + 1, none⟩ = some (.int .i64 x2) := row_cell (F := encEA) (k := 3) (j := 1) (fun _ => rfl) h2 HX2.out (by decide)
    have cx3 : w2.cell? ⟨g, n * 3 + 2, none⟩ = some (.int .i64 xn) := row_cell (F := encEA) (k := 3) (j := 2) (fun _ => rfl) h2 HX2.out (by decide)
    have hgb : ∃ cur, Bk w2 g 73 cur := rw_bk h2 g rfl
    have hfz : ∀ j, w2.frozen? ⟨g, j, none⟩ = false := fun j => by obtain ⟨cur, hh⟩ := hgb; exact hh.frozen j
    have fx1 := hfz (n * 3)
    have fx2 := hfz (n * 3 + 1)
    have fx3 := hfz (n * 3 + 2)
    have HH := Lib.hid h2
    have HL2 := Lib.hid hL2
    clear hgb hfz h2 hL2
    go_wp2_with fail
    change Calls _ _ _ ((putA w2 g n ((0, 0), 0)).setCell ⟨p, 1, none⟩ (.slice (some ⟨g, 0, none⟩) n cp)) _
    clear ch fp cx1 cx2 cx3 fx1 fx2 fx3
    have hln : ((hs.set 0 ((x1, x2), xn)).take n).length = n := by rw [List.length_take, List.length_set, HHL.out]; omega
    have hL3 : LsA ((putA w2 g n ((0, 0), 0)).setCell ⟨p, 1, none⟩ (.slice (some ⟨g, 0, none⟩) n cp)) p B fv (.slice (some ⟨g, 0, none⟩) ((hs.set 0 ((x1, x2), xn)).take n).length cp) N ((hs.set 0 ((x1, x2), xn)).take n) := by
      rw [hln]
      refine ⟨Bk.put ((putA_fr (X := fun b => b = g) w2 g n ((0, 0), 0) rfl).bk HL2.out.hd hpg) 1 _, ?_⟩
      rw [hln]
      have h3 := putA_row (b := ((0, 0), 0)) HH.out HX2.out
      have h4 := cutA h3 (by rw [List.length_set, List.length_set, HHL.out, HM.out]) (show n ≤ n1 by omega)
      rw [List.take_set, List.set_eq_of_length_le (by rw [hln]; exact Nat.le_refl _)] at h4
      refine rw_keep h4 fun b e => ?_
      cases e
      exact Below.heap_setCell _ _ _ _ hgp
    have hF3 : Fr (fun b => c b ∨ b = g ∨ b = p) w1 ((putA w2 g n ((0, 0), 0)).setCell ⟨p, 1, none⟩ (.slice (some ⟨g, 0, none⟩) n cp)) :=
      (hF2.wide fun _ _ h => .inr (.inl h)).trans ((putA_fr (X := fun b => c b ∨ b = g ∨ b = p) w2 g n ((0, 0), 0) (.inr (.inl rfl))).trans (Fr.set _ _ _ (.inr (.inr rfl))))
    have hJ3 : J k ((putA w2 g n ((0, 0), 0)).setCell ⟨p, 1, none⟩ (.slice (some ⟨g, 0, none⟩) n cp)) := HLC.out.stay hJ1 fun b hb => by
      have hF9 : Fr (fun b => b = g ∨ b = p) w1 ((putA w2 g n ((0, 0), 0)).setCell ⟨p, 1, none⟩ (.slice (some ⟨g, 0, none⟩) n cp)) :=
        (hF2.wide fun _ _ h => .inl h).trans ((putA_fr (X := fun b => b = g ∨ b = p) w2 g n ((0, 0), 0) (.inl rfl)).trans (Fr.set _ _ _ (.inr rfl)))
      exact hF9.keep b (HLC.out.bnd hJ1 hb) (fun h => h.elim (fun e => HGB.out (e ▸ hb)) (fun e => hp (e ▸ hb)))
    generalize (putA w2 g n ((0, 0), 0)).setCell ⟨p, 1, none⟩ (.slice (some ⟨g, 0, none⟩) n cp) = w3 at *
    have hpp := pop_perm HR.out HX.out HHL.out
    have hok3 : ∀ e ∈ (hs.set 0 ((x1, x2), xn)).take n, ok e.1 := fun e he => ho e (HH2.out.perm.mem_iff.1 (hpp.mem_iff.1 (List.mem_cons_of_mem _ he)))
    refine (downA HLC.out p B g cp N _ k w3 hL3 hp HGB.out hok3 (by rw [hln]; omega) (pop_down HH2.out.ok) hJ3).mono ?_
    rintro e w5 ⟨rfl, hs5, hL5, hpm5, hok5, j5, hF5⟩
    rw [hln] at j5
    have ncq : ∀ b, q ≤ b → ¬ (c b ∨ b = g ∨ b = p) := fun b hb h => h.elim (fun h => by have := HLC.out.bnd hJ h; have := HQ0.out; omega) fun h => by have := HWB.out; omega
    have hq5 : Bk w5 q 27 #[.int .i64 0, .int .i64 0] := hF5.bk (hF3.bk HQ.out (ncq q (Nat.le_refl _))) fun h => ncq q (Nat.le_refl _) (h.elim .inl fun h => .inr (.inl h))
    have hyq : q ≤ y := Nat.le_of_lt HYQ.out
    have hy5 : Bk w5 y 27 #[.int .i64 r1, .int .i64 r2] := hF5.bk (hF3.bk HY.out (ncq y hyq)) fun h => ncq y hyq (h.elim .inl fun h => .inr (.inl h))
    have cq1 : w5.cell? ⟨q, 0, none⟩ = some (.int .i64 0) := (hq5.cell 0).trans rfl
    have cq2 : w5.cell? ⟨q, 1, none⟩ = some (.int .i64 0) := (hq5.cell 1).trans rfl
    have fq1 : w5.frozen? ⟨q, 0, none⟩ = false := hq5.frozen 0
    have fq2 : w5.frozen? ⟨q, 1, none⟩ = false := hq5.frozen 1
    have cy1 : w5.cell? ⟨y, 0, none⟩ = some (.int .i64 r1) := (hy5.cell 0).trans rfl
    have cy2 : w5.cell? ⟨y, 1, none⟩ = some (.int .i64 r2) := (hy5.cell 1).trans rfl
    have HQ9 : Hid (Bk ((w5.setCell ⟨q, 0, none⟩ (.int .i64 r1)).setCell ⟨q, 1, none⟩ (.int .i64 r2)) q 27 #[.int .i64 r1, .int .i64 r2]) := Bk.put (Bk.put hq5 0 _) 1 _
    have HF9 : Hid (Fr (fun b => b = q) w5 ((w5.setCell ⟨q, 0, none⟩ (.int .i64 r1)).setCell ⟨q, 1, none⟩ (.int .i64 r2))) := (Fr.set (X := fun b => b = q) _ _ _ rfl).trans (Fr.set (X := fun b => b = q) _ _ _ rfl)
    clear hq5 hy5
    go_wp2
    clear cq1 cq2 fq1 fq2 cy1 cy2
    generalize (w5.setCell ⟨q, 0, none⟩ (.int .i64 r1)).setCell ⟨q, 1, none⟩ (.int .i64 r2) = w9 at *
    have hq9 := HQ9.out
    have cq1 : w9.cell? ⟨q, 0, none⟩ = some (.int .i64 r1) := (hq9.cell 0).trans rfl
    have cq2 : w9.cell? ⟨q, 1, none⟩ = some (.int .i64 r2) := (hq9.cell 1).trans rfl
    clear hq9
    refine bodyPost_ret (v := .tuple #[.agg #[.int .i64 r1, .int .i64 r2], .bool true]) (by simp [results, Try.results13, go_sem, cq1, cq2]) rfl ?_
    obtain ⟨S', hS1, hS2⟩ := HH2.out.popped HLC.out.ord HR.out ((hpm5.cons _).trans hpp) hok5
    injection hS1 with _ hS1
    subst hS1
    have hdg := dg_mono (show n ≤ n + 1 by omega)
    have hL9 : LsA w9 p B fv (.slice (some ⟨g, 0, none⟩) hs5.length cp) N hs5 := hL5.fr HF9.out (fun e => ncq q (Nat.le_refl _) (.inr (.inr e.symm))) (fun b e => by cases e; exact fun e => ncq q (Nat.le_refl _) (.inr (.inl e.symm)))
    have j9 : J (k + 4 * dg n) w9 := HLC.out.stay j5 fun b hb => HF9.out.keep b (HLC.out.bnd j5 hb) (hqn.out b hb)
    refine ⟨rfl, _, ⟨hs5, hL9, hS2⟩, rfl, HLC.out.mono j9 (by rw [HN.out]; omega), ?_⟩
    have hX := ((hF.wide fun _ _ h => h.elim).trans (hF3.wide (Y := fun b => (c b ∨ b = g ∨ b = p) ∨ b = q) fun b _ h => .inl h)).trans (hF5.wide fun b _ h => .inl (h.elim .inl fun h => .inr (.inl h)))
    refine (hX.trans (HF9.out.wide fun b _ h => .inr h)).wide fun b hb h => ?_
    rcases h with (h | h | h) | h
    · exact .inl h
    · exact .inr (.inl (congrArg some h.symm))
    · exact .inr (.inr h)
    · have := HQ0.out
      omega
end

end Go.Proofs.Ytnepkpcoglfejaa
