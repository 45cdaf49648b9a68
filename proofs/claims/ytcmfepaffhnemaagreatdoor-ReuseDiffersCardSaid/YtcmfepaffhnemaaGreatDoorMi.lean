/- Trees, entries, queries. -/
import Derived.Test.YtcmfepaffhnemaaGreatDoorMb
import Derived.Test.YtcmfepaffhnemaaGreatDoorMc
import Derived.Deep.RegionHeld3
import Derived.LaidEql
import Derived.Laws.EntriesVeiled
import Derived.Test.YtcmfepaffhnemaaGreatDoorMg
set_option linter.unusedSimpArgs false
set_option linter.unusedVariables false
namespace Go.Proofs.YtcmfepaffhnemaaGreatDoor
open Go.RowKit

attribute [local go_sem] Oper.semAt_some
set_option maxRecDepth 100000 in
set_option maxHeartbeats 4000000 in
theorem trat0 (w : World) :
    Calls Tryz.prog 124 #[.agg #[.bool false, .slice none 0 0, .slice none 0 0], .agg #[.bool false, .slice none 0 0, .slice none 0 0]] w fun e w' => e = .returned (.bool true) ∧ Gr w w' := by
  obtain ⟨B1, B2, G⟩ := made2 w 41 41 (#[.bool false, .slice none 0 0, .slice none 0 0]) (#[.bool false, .slice none 0 0, .slice none 0 0])
  have HG := Lib.hid G
  have D_a := Lib.hid B1
  have D_b := Lib.hid B2
  clear G B1 B2
  obtain ⟨a0, a1, a2⟩ := D_a.out.c3
  obtain ⟨b0, b1, b2⟩ := D_b.out.c3
  go_enter Tryz.func124, Tryz.ntmps124
  go_wp2_with fail
  generalize hW : (w.alloc (.cells #[.bool false, .slice none 0 0, .slice none 0 0] 41)).alloc (.cells #[.bool false, .slice none 0 0, .slice none 0 0] 41) = W at *
  clear hW
  have N_a : Hid (w.heap.size ≤ w.heap.size) := (by show w.heap.size ≤ w.heap.size; omega)
  have N_b : Hid (w.heap.size ≤ w.heap.size + 1) := (by show w.heap.size ≤ w.heap.size + 1; omega)
  generalize w.heap.size + 1 = b at *
  refine (eq_any W Sv.none Sv.none 0 0 (Rv.Is.zero W).num (Rv.Is.zero W).num).mono ?_
  rintro e w1 ⟨rfl, G1⟩
  replace D_a := Lib.hid (G1.bk D_a.out)
  replace D_b := Lib.hid (G1.bk D_b.out)
  replace HG := Lib.hid (HG.out.trans G1)
  clear G1 a0 a1 a2 b0 b1 b2
  obtain ⟨a0, a1, a2⟩ := D_a.out.c3
  obtain ⟨b0, b1, b2⟩ := D_b.out.c3
  go_wp2_with fail
  refine (eq_any w1 Sv.none Sv.none 0 0 (Rv.Is.zero w1).num (Rv.Is.zero w1).num).mono ?_
  rintro e w2 ⟨rfl, G1⟩
  replace D_a := Lib.hid (G1.bk D_a.out)
  replace D_b := Lib.hid (G1.bk D_b.out)
  replace HG := Lib.hid (HG.out.trans G1)
  clear G1 a0 a1 a2 b0 b1 b2
  obtain ⟨a0, a1, a2⟩ := D_a.out.c3
  obtain ⟨b0, b1, b2⟩ := D_b.out.c3
  go_wp2
  go_ret
  exact ⟨rfl, HG.out⟩

theorem Bk.c5 {w : World} {p t : Nat} {a b c d e : Value} (h : Bk w p t #[a, b, c, d, e]) : w.cell? ⟨p, 0, none⟩ = some a ∧ w.cell? ⟨p, 1, none⟩ = some b ∧ w.cell? ⟨p, 2, none⟩ = some c ∧ w.cell? ⟨p, 3, none⟩ = some d ∧ w.cell? ⟨p, 4, none⟩ = some e := ⟨h.cell 0, h.cell 1, h.cell 2, h.cell 3, h.cell 4⟩
set_option maxRecDepth 100000 in
set_option maxHeartbeats 4000000 in
theorem tdec0 (w : World) :
    Calls Tryz.prog 86 #[.agg #[.int .i64 0, .int .i64 0, .bool false, .slice none 0 0, .slice none 0 0], .agg #[.int .i64 0, .int .i64 0, .bool false, .slice none 0 0, .slice none 0 0]] w fun e w' => e = .returned (.bool true) ∧ Gr w w' := by
  obtain ⟨B1, B2, G⟩ := made2 w 51 51 (#[.int .i64 0, .int .i64 0, .bool false, .slice none 0 0, .slice none 0 0]) (#[.int .i64 0, .int .i64 0, .bool false, .slice none 0 0, .slice none 0 0])
  have HG := Lib.hid G
  have D_a := Lib.hid B1
  have D_b := Lib.hid B2
  clear G B1 B2
  obtain ⟨a0, a1, a2, a3, a4⟩ := D_a.out.c5
  obtain ⟨b0, b1, b2, b3, b4⟩ := D_b.out.c5
  go_enter Tryz.func86, Tryz.ntmps86
  go_wp2_with fail
  generalize hW : (w.alloc (.cells #[.int .i64 0, .int .i64 0, .bool false, .slice none 0 0, .slice none 0 0] 51)).alloc (.cells #[.int .i64 0, .int .i64 0, .bool false, .slice none 0 0, .slice none 0 0] 51) = W at *
  clear hW
  have N_a : Hid (w.heap.size ≤ w.heap.size) := (by show w.heap.size ≤ w.heap.size; omega)
  have N_b : Hid (w.heap.size ≤ w.heap.size + 1) := (by show w.heap.size ≤ w.heap.size + 1; omega)
  generalize w.heap.size + 1 = b at *
  refine (trat0 W).mono ?_
  rintro e w1 ⟨rfl, G1⟩
  replace HG := Lib.hid (HG.out.trans G1)
  clear G1 a0 a1 a2 a3 a4 b0 b1 b2 b3 b4
  go_wp2
  go_ret
  exact ⟨rfl, HG.out⟩

/-- A leaf without lemmas. -/
abbrev leafV (p : Sv) : Value := .agg #[.slice none 0 0, .int .i64 0, .int .i64 0, .bool false, .slice none 0 0, .slice none 0 0, .slice none 0 0, .bool false, .slice p.A p.n p.c]
theorem Bk.c9 {w : World} {p t : Nat} {a b c d e f g h i : Value} (k : Bk w p t #[a, b, c, d, e, f, g, h, i]) : w.cell? ⟨p, 0, none⟩ = some a ∧ w.cell? ⟨p, 1, none⟩ = some b ∧ w.cell? ⟨p, 2, none⟩ = some c ∧ w.cell? ⟨p, 3, none⟩ = some d ∧ w.cell? ⟨p, 4, none⟩ = some e ∧ w.cell? ⟨p, 5, none⟩ = some f ∧ w.cell? ⟨p, 6, none⟩ = some g ∧ w.cell? ⟨p, 7, none⟩ = some h ∧ w.cell? ⟨p, 8, none⟩ = some i := ⟨k.cell 0, k.cell 1, k.cell 2, k.cell 3, k.cell 4, k.cell 5, k.cell 6, k.cell 7, k.cell 8⟩
set_option maxRecDepth 100000 in
set_option maxHeartbeats 4000000 in
theorem tsize0 (w : World) (p : Sv) (d m : Nat) (hm : 1 ≤ m) (hm9 : m ≤ 100000) :
    Calls Tryz.prog 52 #[leafV p, .int .i64 d, .int .i64 m] w fun e w' => e = .returned (.tuple #[.int .i64 1, .bool true]) ∧ Gr w w' := by
  have hm1 : decide ((m : Int) < 1) = false := by simp; omega
  obtain ⟨B1, G⟩ := made1 w 55 (#[.slice none 0 0, .int .i64 0, .int .i64 0, .bool false, .slice none 0 0, .slice none 0 0, .slice none 0 0, .bool false, .slice p.A p.n p.c])
  have HG := Lib.hid G
  have D_a := Lib.hid B1
  clear G B1
  obtain ⟨a0, a1, a2, a3, a4, a5, a6, a7, a8⟩ := D_a.out.c9
  go_enter Tryz.func52, Tryz.ntmps52
  go_wp2_with fail
  generalize hW : w.alloc (.cells #[.slice none 0 0, .int .i64 0, .int .i64 0, .bool false, .slice none 0 0, .slice none 0 0, .slice none 0 0, .bool false, .slice p.A p.n p.c] 55) = W at *
  clear hW
  have N_a : Hid (w.heap.size ≤ w.heap.size) := (by show w.heap.size ≤ w.heap.size; omega)
  refine (tdec0 W).mono ?_
  rintro e w1 ⟨rfl, G1⟩
  replace HG := Lib.hid (HG.out.trans G1)
  clear G1 a0 a1 a2 a3 a4 a5 a6 a7 a8
  go_wp2
  refine bodyPost_ret (by simp [results, Tryz.results52, go_sem]; try rfl) rfl ?_
  exact ⟨rfl, HG.out⟩
set_option maxRecDepth 100000 in
set_option maxHeartbeats 4000000 in
theorem tvalid0 (w : World) (p : Sv) :
    Calls Tryz.prog 33 #[leafV p] w fun e w' => e = .returned (.bool true) ∧ Gr w w' := by
  obtain ⟨B1, G⟩ := made1 w 55 (#[.slice none 0 0, .int .i64 0, .int .i64 0, .bool false, .slice none 0 0, .slice none 0 0, .slice none 0 0, .bool false, .slice p.A p.n p.c])
  have HG := Lib.hid G
  have D_a := Lib.hid B1
  clear G B1
  obtain ⟨a0, a1, a2, a3, a4, a5, a6, a7, a8⟩ := D_a.out.c9
  go_enter Tryz.func33, Tryz.ntmps33
  go_wp2_with fail
  generalize hW : w.alloc (.cells #[.slice none 0 0, .int .i64 0, .int .i64 0, .bool false, .slice none 0 0, .slice none 0 0, .slice none 0 0, .bool false, .slice p.A p.n p.c] 55) = W at *
  clear hW
  have N_a : Hid (w.heap.size ≤ w.heap.size) := (by show w.heap.size ≤ w.heap.size; omega)
  refine (tsize0 W p 2048 65536 (by decide) (by decide)).mono ?_
  rintro e w1 ⟨rfl, G1⟩
  replace HG := Lib.hid (HG.out.trans G1)
  clear G1 a0 a1 a2 a3 a4 a5 a6 a7 a8
  go_wp2
  go_ret
  exact ⟨rfl, HG.out⟩
end Go.Proofs.YtcmfepaffhnemaaGreatDoor

set_option linter.unusedVariables false
namespace Go.Proofs.YtcmfepaffhnemaaGreatDoor
open Go.RowKit

attribute [local go_sem] Oper.semAt_some

/-- A row's name. -/
structure Rw where
  kind : Int
  index : Int
  lo : Int
  hi : Int
  deriving DecidableEq, Inhabited
structure Mv where
  row : Rw
  coef : Rv
abbrev Mm := Rw × Q
def Mv.cs (t : Mv) : List Value := [.int .i64 t.row.kind, .int .i64 t.row.index, .int .i64 t.row.lo, .int .i64 t.row.hi, .bool t.coef.neg, .slice t.coef.num.A t.coef.num.n t.coef.num.c, .slice t.coef.den.A t.coef.den.n t.coef.den.c]
structure Mv.Is (w : World) (t : Mv) (x : Mm) : Prop where
  row : t.row = x.1
  coef : t.coef.Is w x.2
theorem Mv.Is.gr {w w' : World} {t : Mv} {x : Mm} (h : t.Is w x) (G : Gr w w') : t.Is w' x := ⟨h.row, h.coef.gr G⟩
theorem Mv.len (t : Mv) : t.cs.length = 7 := rfl
abbrev Mults (w : World) (x : Sv) (l : List Mm) : Prop := Rows Mv.cs Mv.Is 84 7 w x l
theorem Mults.gr {w w' : World} {x : Sv} {l : List Mm} (h : Mults w x l) (G : Gr w w') : Mults w' x l := Rows.gr (fun h G => h.gr G) h G
theorem Mults.len {w : World} {x : Sv} {l : List Mm} (h : Mults w x l) : l.length = x.n := Rows.len Mv.len (by decide) h
theorem Mults.at {w : World} {x : Sv} {l : List Mm} (h : Mults w x l) {i : Nat} {a : Mm} (ha : l[i]? = some a) :
    ∃ (t : Mv) (ad : Addr), t.Is w a ∧ x.A = some ad ∧ w.cell? (ad.add (i * 7)) = some (.int .i64 a.1.kind) ∧ w.cell? ⟨(ad.add (i * 7)).block, (ad.add (i * 7)).off + 1, none⟩ = some (.int .i64 a.1.index) ∧ w.cell? ⟨(ad.add (i * 7)).block, (ad.add (i * 7)).off + 2, none⟩ = some (.int .i64 a.1.lo) ∧ w.cell? ⟨(ad.add (i * 7)).block, (ad.add (i * 7)).off + 3, none⟩ = some (.int .i64 a.1.hi) ∧ w.cell? ⟨(ad.add (i * 7)).block, (ad.add (i * 7)).off + 4, none⟩ = some (.bool t.coef.neg) ∧ w.cell? ⟨(ad.add (i * 7)).block, (ad.add (i * 7)).off + 5, none⟩ = some (.slice t.coef.num.A t.coef.num.n t.coef.num.c) ∧ w.cell? ⟨(ad.add (i * 7)).block, (ad.add (i * 7)).off + 6, none⟩ = some (.slice t.coef.den.A t.coef.den.n t.coef.den.c) := by
  obtain ⟨t, ht, hc⟩ := Rows.at Mv.len h ha
  have hr := ht.row
  obtain ⟨ad, hA, _, c0⟩ := hc 0 _ rfl
  obtain ⟨ad1, h1, _, c1⟩ := hc 1 _ rfl
  obtain ⟨ad2, h2, _, c2⟩ := hc 2 _ rfl
  obtain ⟨ad3, h3, _, c3⟩ := hc 3 _ rfl
  obtain ⟨ad4, h4, _, c4⟩ := hc 4 _ rfl
  obtain ⟨ad5, h5, _, c5⟩ := hc 5 _ rfl
  obtain ⟨ad6, h6, _, c6⟩ := hc 6 _ rfl
  rw [hA] at h1 h2 h3 h4 h5 h6
  cases h1; cases h2; cases h3; cases h4; cases h5; cases h6
  rw [add_in _ _ (by decide)] at c1 c2 c3 c4 c5 c6
  rw [← hr]
  exact ⟨t, ad, ht, hA, c0, c1, c2, c3, c4, c5, c6⟩
theorem Mv.one (t : Mv) : ∀ u ∈ t.cs, u.oneCell' = true := fun u hu => by
  simp only [Mv.cs, List.mem_cons, List.not_mem_nil, or_false] at hu
  rcases hu with rfl | rfl | rfl | rfl | rfl | rfl | rfl <;> rfl
theorem elemM : ElemS Tryz.prog 53 84 7 88 := elem_of (z := .agg #[.int .i64 0, .int .i64 0, .int .i64 0, .int .i64 0, .bool false, .slice none 0 0, .slice none 0 0]) (by kernel_rfl) (by kernel_rfl) rfl (by decide)

set_option maxRecDepth 100000 in
set_option maxHeartbeats 1000000 in
theorem cloneM (w : World) (x : Sv) (ds : List Value) (h : x.Is w 7 ds) (h1 : ∀ u ∈ ds, u.oneCell' = true) (hn : x.n ≤ 1000000) :
    Calls Tryz.prog 56 #[.slice x.A x.n x.c] w fun e w' => ∃ y : Sv, e = .returned y.v ∧ y.Is w' 7 ds ∧ y.Ty w' 84 ∧ Gr w w' := by
  obtain ⟨A, n, c⟩ := x
  simp only at hn
  have heq := fun (W : World) (A : Option Addr) (n c : Nat) => Lib.run_eql_slice_nil (P := Tryz.prog) W 53 84 A n c 0 0 elemM.ht
  rcases A with _ | ad
  · obtain ⟨h9, rfl⟩ := h.mk0 rfl
    injection h9 with _ h8 h7
    subst h8 h7
    go_enter Tryz.func56, Tryz.ntmps56
    go_wp2
    go_ret
    exact ⟨Sv.none, rfl, Sv.Is.none _ _, (fun ad h => by cases h), Gr.refl w⟩
  · have HO : Hid ((w.alloc (.cells #[] 84)).ownsRow w.heap.size 84 7 (.slice (some ⟨w.heap.size, 0, none⟩) 0 0) 0 []) := ⟨rfl, .inr ⟨w.heap.size, 0, #[], rfl, Nat.le_refl _, Bk.made _ _ _, Nat.le_refl _, Nat.zero_le _, rfl, rfl⟩⟩
    have HC : Hid (∀ j u, ds[j]? = some u → (w.alloc (.cells #[] 84)).cell? (ad.add j) = some u) := (h.gr ((Gr.refl w).alloc _)).cells rfl
    have HU := Lib.hid h1
    have H1 := Lib.hid h.len
    simp only at H1
    clear h h1
    go_enter Tryz.func56, Tryz.ntmps56
    go_wp2_with (at_builtin; refine wpList_appS elemM rfl _ _ rfl w.heap.size (.slice (some ⟨w.heap.size, 0, none⟩) 0 0) 0 [] rfl HO.out ad n c ds rfl H1.out HC.out HU.out (by unfold maxLen; omega) (by omega) (by simp) ?_; intro v' w' h2 h3 h5)
    go_wp2
    go_ret
    rw [Nat.zero_add, List.nil_append] at h2
    obtain ⟨y, rfl, _, hy, hty⟩ := Sv.of_row h2 (by decide)
    exact ⟨y, rfl, hy, hty, Gr.of_own h3⟩

theorem Mults.clone (w : World) (x : Sv) (l : List Mm) (h : Mults w x l) (hn : x.n ≤ 1000000) :
    Calls Tryz.prog 56 #[.slice x.A x.n x.c] w fun e w' => ∃ y : Sv, e = .returned y.v ∧ Mults w' y l ∧ Gr w w' := by
  obtain ⟨ts, t1, t2, t3, _⟩ := h
  refine (cloneM w x _ t1 (fun u hu => by obtain ⟨p, _, hp⟩ := List.mem_flatMap.1 hu; exact Mv.one _ u hp) hn).mono ?_
  rintro e w' ⟨y, rfl, hy, hty, G⟩
  exact ⟨y, rfl, ⟨ts, hy, t2, fun p hp => (t3 p hp).gr G, hty⟩, G⟩

set_option maxRecDepth 100000 in
set_option maxHeartbeats 4000000 in
theorem cloneD0 (w : World) :
    Calls Tryz.prog 55 #[.slice none 0 0] w fun e w' => e = .returned (.slice none 0 0) ∧ Gr w w' := by
  have heq := fun (W : World) (A : Option Addr) (n c : Nat) => Lib.run_eql_slice_nil (P := Tryz.prog) W 88 51 A n c 0 0 (by kernel_rfl)
  go_enter Tryz.func55, Tryz.ntmps55
  go_wp2
  go_ret
  exact ⟨rfl, Gr.refl w⟩

set_option maxRecDepth 100000 in
set_option maxHeartbeats 4000000 in
theorem growL0 (w : World) :
    Calls Tryz.prog 87 #[.slice none 0 0, .int .i64 0] w fun e w' => e = .returned (.slice none 0 0) ∧ Gr w w' := by
  go_enter Tryz.func87, Tryz.ntmps87
  go_wp2
  go_ret
  exact ⟨rfl, Gr.refl w⟩

set_option maxRecDepth 100000 in
set_option maxHeartbeats 4000000 in
theorem concatL0 (w : World) (b : Nat) (hb : Bk w b 49 #[.slice none 0 0, .slice none 0 0]) :
    Calls Tryz.prog 54 #[.slice (some ⟨b, 0, none⟩) 2 2] w fun e w' => e = .returned (.slice none 0 0) ∧ Gr w w' := by
  obtain ⟨c0, c1⟩ := hb.c2
  have HB := Lib.hid hb
  clear hb
  go_enter Tryz.func54, Tryz.ntmps54
  go_wp2_with fail
  refine wp_loop_rounds 3 ?_
  rw [rounds_succ]; go_wp2
  rw [rounds_succ]; go_wp2
  rw [rounds_succ]; go_wp2_with fail
  refine (growL0 w).mono ?_
  rintro e w1 ⟨rfl, G1⟩
  replace c0 := G1.keep c0
  replace c1 := G1.keep c1
  have HG := Lib.hid G1
  clear G1
  go_wp2_with fail
  refine wp_loop_rounds 3 ?_
  rw [rounds_succ]; go_wp2
  rw [rounds_succ]; go_wp2
  rw [rounds_succ]; go_wp2
  go_ret
  exact ⟨rfl, HG.out⟩
end Go.Proofs.YtcmfepaffhnemaaGreatDoor

set_option linter.unusedVariables false
namespace Go.Proofs.YtcmfepaffhnemaaGreatDoor
open Go.RowKit

attribute [local go_sem] Oper.semAt_some

/-- The entry of a leaf without path and lemmas. -/
def entCs (p : Sv) : List Value := [.slice none 0 0, .slice none 0 0, .int .i64 0, .int .i64 0, .bool false, .slice none 0 0, .slice none 0 0, .slice none 0 0, .bool false, .slice p.A p.n p.c]
theorem entCs_len (p : Sv) : (entCs p).length = 10 := rfl
theorem entCs_one (p : Sv) : ∀ u ∈ entCs p, u.oneCell' = true := fun u hu => by
  simp only [entCs, List.mem_cons, List.not_mem_nil, or_false] at hu
  rcases hu with rfl | rfl | rfl | rfl | rfl | rfl | rfl | rfl | rfl | rfl <;> rfl
abbrev OwnE (w : World) (B : Nat) (x : Sv) (l : List (List Mm)) : Prop := Own entCs Mults 90 10 w B x l
abbrev Ents (w : World) (x : Sv) (l : List (List Mm)) : Prop := Rows entCs Mults 90 10 w x l
theorem Bk.c1 {w : World} {p t : Nat} {a : Value} (h : Bk w p t #[a]) : w.cell? ⟨p, 0, none⟩ = some a := h.cell 0
theorem elemE : ElemS Tryz.prog 58 90 10 176 := elem_of (z := .agg #[.slice none 0 0, .slice none 0 0, .int .i64 0, .int .i64 0, .bool false, .slice none 0 0, .slice none 0 0, .slice none 0 0, .bool false, .slice none 0 0]) (by kernel_rfl) (by kernel_rfl) rfl (by decide)
theorem Mults.tf {w w' : World} {x : Sv} {l : List Mm} {X : Nat → Prop} (h : Mults w x l) (F : Fr X w w') (hX : ∀ b cs fr, X b → w.heap[b]? ≠ some (.cells cs 84 fr)) (hU : ∀ b cs fr, X b → w.heap[b]? ≠ some (.cells cs 211 fr)) : Mults w' x l :=
  Rows.tf h F hX fun _ _ h => ⟨h.row, h.coef.tf F hU⟩
theorem Mults.st {w w' : World} {p t : Nat} {us : Array Value} {x : Sv} {l : List Mm} (h : Mults w x l) (F : Fr (fun x => x = p) w w') (hb : Bk w p t us) (h0 : t ≠ 84) (h1 : t ≠ 211) : Mults w' x l :=
  h.tf F (fun b cs fr e hh => Bk.not_ty hb h0 cs fr (e ▸ hh)) (fun b cs fr e hh => Bk.not_ty hb h1 cs fr (e ▸ hh))
theorem OwnE.step {w w' : World} {B : Nat} {x : Sv} {l : List (List Mm)} (h : OwnE w B x l) (F : Fr (fun b => (Value.slice x.A x.n x.c).ownBlock = some b) w w') : ∀ (p : Sv) (a : List Mm), Mults w p a → Mults w' p a := fun p a hp => by
  obtain ⟨ts, t1, _⟩ := h
  exact hp.tf F (fun b cs fr hb hh => by obtain ⟨cur, hc⟩ := rw_bk t1 b hb; exact Bk.not_ty hc (by decide) _ _ hh) (fun b cs fr hb hh => by obtain ⟨cur, hc⟩ := rw_bk t1 b hb; exact Bk.not_ty hc (by decide) _ _ hh)

set_option maxRecDepth 100000 in
set_option maxHeartbeats 4000000 in
theorem sent1 (w : World) (o q : Nat) (p : Sv) (l : List Mm) (ho : Bk w o 58 #[.slice none 0 0]) (hp : Mults w p l) (hn : p.n ≤ 1000000) :
    Calls Tryz.prog 53 #[leafV p, .slice none 0 0, .slice none 0 0, .pointer (some ⟨o, 0, none⟩), .pointer (some ⟨q, 0, none⟩)] w fun e w' => ∃ z : Sv, e = .returned (.tuple #[]) ∧ OwnE w' w.heap.size z [l] ∧ Bk w' o 58 #[.slice z.A z.n z.c] ∧ Fr (fun b => b = o) w w' := by
  obtain ⟨B1, G⟩ := made1 w 55 (#[.slice none 0 0, .int .i64 0, .int .i64 0, .bool false, .slice none 0 0, .slice none 0 0, .slice none 0 0, .bool false, .slice p.A p.n p.c])
  have HG := Lib.hid G
  have D_a := Lib.hid B1
  clear G B1
  have HO := Lib.hid (HG.out.bk ho)
  have HM := Lib.hid (hp.gr HG.out)
  clear ho hp
  go_enter Tryz.func53, Tryz.ntmps53
  go_upto_region 1 with fail
  generalize hW : w.alloc (.cells #[.slice none 0 0, .int .i64 0, .int .i64 0, .bool false, .slice none 0 0, .slice none 0 0, .slice none 0 0, .bool false, .slice p.A p.n p.c] 55) = W at *
  clear hW
  have N_a : Hid (w.heap.size ≤ w.heap.size) := (by show w.heap.size ≤ w.heap.size; omega)
  have a0 := D_a.out.cell 0
  have a6 := D_a.out.cell 6
  simp only [List.getElem?_toArray, List.getElem?_cons_zero, List.getElem?_cons_succ] at a0 a6
  go_wp2_with fail
  obtain ⟨B1, GB⟩ := made1 W 49 #[.slice none 0 0, .slice none 0 0]
  refine (concatL0 _ W.heap.size B1).mono ?_
  rintro e w2 ⟨rfl, G1⟩
  have GG := GB.trans G1
  have D0o := Lib.hid ((GG.trans (Gr.refl w2).drew).bk HO.out)
  have D0a := Lib.hid ((GG.trans (Gr.refl w2).drew).bk D_a.out)
  have HM0 := Lib.hid (HM.out.gr (GG.trans (Gr.refl w2).drew))
  have HG0 := Lib.hid (HG.out.trans (GG.trans (Gr.refl w2).drew))
  replace a6 := GG.keep a6
  clear B1 GB G1 GG a0 HO HM D_a HG
  go_wp2_with fail
  go_upto_region 3 with fail
  clear a6
  have hS0 := And.intro (D0o.out.cell 0) (And.intro (D0a.out.cell 7) (D0a.out.cell 8))
  refine wp_region_E (fun W => W.cell? ⟨o, 0, none⟩ = some (.slice none 0 0) ∧ W.cell? ⟨w.heap.size, 7, none⟩ = some (.bool false) ∧ W.cell? ⟨w.heap.size, 8, none⟩ = some (.slice p.A p.n p.c)) (by kernel_rfl) ?_
  show anyE _ _ _ _ 14 _ _ _
  refine anyE.take (i := 0) (v := ?wv1) rfl (by kernel_rfl) (by kernel_rfl) (by kernel_rfl) (fun _ _ _ h => h) (Or.inl ⟨by rfl, ?wy1⟩) hS0 ?wr1
  case wy1 => (intro w' hS'; obtain ⟨o0, a7, a8⟩ := hS'; go_simp; try with_reducible rfl)
  try simp only [Act.put, List.setIfInBounds_toArray, List.set_cons_zero, List.set_cons_succ]
  refine anyE.take (i := 1) (v := ?wv2) rfl (by kernel_rfl) (by kernel_rfl) (by kernel_rfl) (fun _ _ _ h => h) (Or.inl ⟨by rfl, ?wy2⟩) hS0 ?wr2
  case wy2 => (intro w' hS'; obtain ⟨o0, a7, a8⟩ := hS'; go_simp; try with_reducible rfl)
  try simp only [Act.put, List.setIfInBounds_toArray, List.set_cons_zero, List.set_cons_succ]
  refine anyE.take (i := 3) (v := ?wv3) rfl (by kernel_rfl) (by kernel_rfl) (by kernel_rfl) (fun _ _ _ h => h) (Or.inl ⟨by rfl, ?wy3⟩) hS0 ?wr3
  case wy3 => (intro w' hS'; obtain ⟨o0, a7, a8⟩ := hS'; go_simp; try with_reducible rfl)
  try simp only [Act.put, List.setIfInBounds_toArray, List.set_cons_zero, List.set_cons_succ]
  refine anyE.take (i := 4) (v := ?wv4) rfl (by kernel_rfl) (by kernel_rfl) (by kernel_rfl) (fun _ _ _ h => h) (Or.inl ⟨by rfl, ?wy4⟩) hS0 ?wr4
  case wy4 => (intro w' hS'; obtain ⟨o0, a7, a8⟩ := hS'; go_simp; try with_reducible rfl)
  try simp only [Act.put, List.setIfInBounds_toArray, List.set_cons_zero, List.set_cons_succ]
  refine anyE.take (i := 5) (v := ?wv5) rfl (by kernel_rfl) (by kernel_rfl) (by kernel_rfl) (fun _ _ _ h => h) (Or.inl ⟨by rfl, ?wy5⟩) hS0 ?wr5
  case wy5 => (intro w' hS'; obtain ⟨o0, a7, a8⟩ := hS'; go_simp; try with_reducible rfl)
  try simp only [Act.put, List.setIfInBounds_toArray, List.set_cons_zero, List.set_cons_succ]
  refine anyE.take (i := 6) (v := ?wv6) rfl (by kernel_rfl) (by kernel_rfl) (by kernel_rfl) (fun _ _ _ h => h) (Or.inl ⟨by rfl, ?wy6⟩) hS0 ?wr6
  case wy6 => (intro w' hS'; obtain ⟨o0, a7, a8⟩ := hS'; go_simp; try with_reducible rfl)
  try simp only [Act.put, List.setIfInBounds_toArray, List.set_cons_zero, List.set_cons_succ]
  refine anyE.take (i := 7) (v := ?wv7) rfl (by kernel_rfl) (by kernel_rfl) (by kernel_rfl) (fun _ _ _ h => h) (Or.inl ⟨by rfl, ?wy7⟩) hS0 ?wr7
  case wy7 => (intro w' hS'; obtain ⟨o0, a7, a8⟩ := hS'; go_simp; try with_reducible rfl)
  try simp only [Act.put, List.setIfInBounds_toArray, List.set_cons_zero, List.set_cons_succ]
  refine anyE.one 2 rfl (by kernel_rfl) (by rfl) (fun K hK => ?_)
  refine doesAt_wp (K := fun v W => v = .slice none 0 0 ∧ Gr w2.drew W) (doesAt_enter (f := 55) (args := #[.slice none 0 0]) (by go_simp; try (first | with_reducible rfl | rfl)) ((cloneD0 _).mono ?_)) ?_
  · rintro e w' ⟨rfl, G⟩
    exact ⟨_, rfl, rfl, G⟩
  rintro v w3 ⟨rfl, G⟩
  have D1o := Lib.hid (G.bk D0o.out)
  have D1a := Lib.hid (G.bk D0a.out)
  have HM1 := Lib.hid (HM0.out.gr G)
  have HG1 := Lib.hid (HG0.out.trans G)
  clear G hS0
  refine hK.out _ _ ⟨Or.inl (⟨D1o.out.cell 0, D1a.out.cell 7, D1a.out.cell 8⟩), ?_⟩
  clear hK K
  try simp only [Act.put, List.setIfInBounds_toArray, List.set_cons_zero, List.set_cons_succ]
  refine anyE.one 8 rfl (by kernel_rfl) (by rfl) (fun K hK => ?_)
  refine doesAt_wp (K := fun v W => ∃ y : Sv, v = y.v ∧ Mults W y l ∧ Gr w3 W) (doesAt_enter (f := 56) (args := #[.slice p.A p.n p.c]) (by go_simp; try (first | with_reducible rfl | rfl)) ((Mults.clone _ p l HM1.out hn).mono ?_)) ?_
  · rintro e w' ⟨y, rfl, hy, G⟩
    exact ⟨_, rfl, y, rfl, hy, G⟩
  rintro v w4 ⟨y, rfl, hy, G⟩
  have D2o := Lib.hid (G.bk D1o.out)
  have D2a := Lib.hid (G.bk D1a.out)
  have HY := Lib.hid hy
  have HG2 := Lib.hid (HG1.out.trans G)
  clear hy G
  refine hK.out _ _ ⟨Or.inl (⟨D2o.out.cell 0, D2a.out.cell 7, D2a.out.cell 8⟩), ?_⟩
  clear hK K
  try simp only [Act.put, List.setIfInBounds_toArray, List.set_cons_zero, List.set_cons_succ]
  have hS2 := And.intro (D2o.out.cell 0) (And.intro (D2a.out.cell 7) (D2a.out.cell 8))
  refine anyE.take (i := 9) (v := ?wv8) rfl (by kernel_rfl) (by kernel_rfl) (by kernel_rfl) (fun _ _ _ h => h) (Or.inl ⟨by rfl, ?wy8⟩) hS2 ?wr8
  case wy8 => (intro w' hS'; obtain ⟨o0, a7, a8⟩ := hS'; go_simp; try with_reducible rfl)
  try simp only [Act.put, List.setIfInBounds_toArray, List.set_cons_zero, List.set_cons_succ]
  refine anyE.take (i := 10) (v := ?wv9) rfl (by kernel_rfl) (by kernel_rfl) (by kernel_rfl) (fun _ _ _ h => h) (Or.inl ⟨by rfl, ?wy9⟩) hS2 ?wr9
  case wy9 => (intro w' hS'; obtain ⟨o0, a7, a8⟩ := hS'; go_simp; try with_reducible rfl)
  try simp only [Act.put, List.setIfInBounds_toArray, List.set_cons_zero, List.set_cons_succ]
  obtain ⟨B1, GB⟩ := made1 w4 90 #[.slice none 0 0, .slice none 0 0, .int .i64 0, .int .i64 0, .bool false, .slice none 0 0, .slice none 0 0, .slice none 0 0, .bool false, .slice y.A y.n y.c]
  have HY3 := Lib.hid (HY.out.gr GB)
  have D3o := Lib.hid (GB.bk D2o.out)
  have D3a := Lib.hid (GB.bk D2a.out)
  have HG3 := Lib.hid (HG2.out.trans GB)
  have BC := Lib.hid (bk_cells B1)
  clear GB B1 hS2
  refine anyE.one 11 rfl (by kernel_rfl) (by rfl) (fun K hK => ?_)
  go_simp
  refine hK.out _ _ ⟨Or.inl (⟨D3o.out.cell 0, D3a.out.cell 7, D3a.out.cell 8⟩), ?_⟩
  clear hK K
  try simp only [Act.put, List.setIfInBounds_toArray, List.set_cons_zero, List.set_cons_succ]
  generalize hw5 : w4.alloc (.cells #[.slice none 0 0, .slice none 0 0, .int .i64 0, .int .i64 0, .bool false, .slice none 0 0, .slice none 0 0, .slice none 0 0, .bool false, .slice y.A y.n y.c] 90) = w5 at *
  clear hw5
  have HSZ := Lib.hid HG3.out.size
  refine anyE.one 12 rfl (by kernel_rfl) (by rfl) (fun K hK => ?_)
  refine Own.app1 elemE _ _ (by rfl) (by rfl) (Own.nil w5 w.heap.size : OwnE w5 w.heap.size Sv.none []) ⟨w4.heap.size, 0, none⟩ 1 y _ (by rfl) HY3.out rfl BC.out (entCs_one y) (by decide) (by decide) HSZ.out (fun w' F => OwnE.step (Own.nil w5 w.heap.size) F) (fun z w6 hzn hz hF => ?_)
  have hF0 : Fr (fun _ => False) w5 w6 := hF.wide (fun b _ e => by cases e)
  have HZ := Lib.hid hz
  have D4o := Lib.hid (hF0.bk D3o.out (fun h => h))
  have D4a := Lib.hid (hF0.bk D3a.out (fun h => h))
  have HG4 := Lib.hid (HG3.out.no hF0)
  clear hF hF0 hz hzn
  refine hK.out _ _ ⟨Or.inl (⟨D4o.out.cell 0, D4a.out.cell 7, D4a.out.cell 8⟩), ?_⟩
  clear hK K
  try simp only [Act.put, List.setIfInBounds_toArray, List.set_cons_zero, List.set_cons_succ]
  refine anyE.one 13 rfl (by kernel_rfl) (by rfl) (fun K hK => ?_)
  have fz := D4o.out.frozen
  have o0 := D4o.out.cell 0
  go_simp
  refine hK.out _ _ ⟨Or.inr (by kernel_rfl), ?_⟩
  clear hK K
  try simp only [Act.put, List.setIfInBounds_toArray, List.set_cons_zero, List.set_cons_succ]
  refine anyE.done (by kernel_rfl) ?_
  have F5 := (Fr.set w6 ⟨o, 0, none⟩ (.slice z.A z.n z.c) rfl : Fr (fun b => b = o) w6 _)
  have B5 := D4o.out.put 0 (.slice z.A z.n z.c)
  have HZ5 := Lib.hid (Own.go HZ.out (fun q a ha => ha.st F5 D4o.out (by decide) (by decide)) (fun b hb => F5.keep b (HZ.out.lt b hb).2 fun e => HZ.out.ne D4o.out (by decide) (e ▸ hb)))
  have D5o := Lib.hid B5
  have HF5 := Lib.hid (HG4.out.fr.none.trans F5 : Fr (fun b => b = o) w _)
  clear F5 B5 fz o0
  generalize w6.setCell ⟨o, 0, none⟩ (.slice z.A z.n z.c) = w7 at *
  go_wp2
  (try simp only [Exit.inBlock, Exit.then])
  refine bodyPost_ret (results_none rfl _ _ _) rfl ?_
  exact ⟨rfl, z, HZ5.out, D5o.out, HF5.out⟩

set_option maxRecDepth 100000 in
set_option maxHeartbeats 4000000 in
theorem sentries0 (w : World) (p : Sv) (l : List Mm) (hp : Mults w p l) (hn : p.n ≤ 1000000) :
    Calls Tryz.prog 34 #[leafV p] w fun e w' => ∃ z : Sv, e = .returned z.v ∧ Ents w' z [l] ∧ Gr w w' := by
  obtain ⟨B1, G⟩ := made1 w 55 (#[.slice none 0 0, .int .i64 0, .int .i64 0, .bool false, .slice none 0 0, .slice none 0 0, .slice none 0 0, .bool false, .slice p.A p.n p.c])
  have HG := Lib.hid G
  have D_a := Lib.hid B1
  clear G B1
  have HM := Lib.hid (hp.gr HG.out)
  clear hp
  go_enter Tryz.func34, Tryz.ntmps34
  go_upto_region 1 with fail
  generalize hW : w.alloc (.cells #[.slice none 0 0, .int .i64 0, .int .i64 0, .bool false, .slice none 0 0, .slice none 0 0, .slice none 0 0, .bool false, .slice p.A p.n p.c] 55) = W at *
  clear hW
  have N_a : Hid (w.heap.size ≤ w.heap.size) := (by show w.heap.size ≤ w.heap.size; omega)
  obtain ⟨B1, B2, GB⟩ := made2 W 58 115 #[.slice none 0 0] #[(.func (.func 53) #[] #[.pointer (some ⟨W.heap.size, 0, none⟩), .pointer (some ⟨W.heap.size + 1, 0, none⟩)])]
  have HO := Lib.hid B1
  have HQ := Lib.hid B2
  have HG2 := Lib.hid (HG.out.trans GB)
  have HMM := Lib.hid (HM.out.gr GB)
  have HA := Lib.hid (GB.bk D_a.out)
  have r0 := B2.c1
  obtain ⟨a0, a1, a2, a3, a4, a5, a6, a7, a8⟩ := HA.out.c9
  have NA := Lib.hid (Nat.ne_of_lt D_a.out.lt)
  have NO := Lib.hid HG.out.size
  clear B1 GB HM D_a HG B2
  go_wp2_with fail
  refine (sent1 _ W.heap.size (W.heap.size + 1) p l HO.out HMM.out hn).mono ?_
  rintro e w2 ⟨z, rfl, hz, ho, hF⟩
  have hO := ho.c1
  have HZ := Lib.hid hz
  have HGE := Lib.hid (HG2.out.fr_at hF NO.out)
  clear hz ho hF
  go_wp2
  go_ret
  exact ⟨z, rfl, HZ.out.rows (by decide), HGE.out⟩
end Go.Proofs.YtcmfepaffhnemaaGreatDoor

set_option linter.unusedVariables false
namespace Go.Proofs.YtcmfepaffhnemaaGreatDoor
open Go.RowKit

attribute [local go_sem] Oper.semAt_some
theorem Bk.c6 {w : World} {p t : Nat} {a b c d e f : Value} (h : Bk w p t #[a, b, c, d, e, f]) : w.cell? ⟨p, 0, none⟩ = some a ∧ w.cell? ⟨p, 1, none⟩ = some b ∧ w.cell? ⟨p, 2, none⟩ = some c ∧ w.cell? ⟨p, 3, none⟩ = some d ∧ w.cell? ⟨p, 4, none⟩ = some e ∧ w.cell? ⟨p, 5, none⟩ = some f := ⟨h.cell 0, h.cell 1, h.cell 2, h.cell 3, h.cell 4, h.cell 5⟩
theorem Bk.c10 {w : World} {p t : Nat} {a b c d e f g h i j : Value} (hh : Bk w p t #[a, b, c, d, e, f, g, h, i, j]) : w.cell? ⟨p, 0, none⟩ = some a ∧ w.cell? ⟨p, 1, none⟩ = some b ∧ w.cell? ⟨p, 2, none⟩ = some c ∧ w.cell? ⟨p, 3, none⟩ = some d ∧ w.cell? ⟨p, 4, none⟩ = some e ∧ w.cell? ⟨p, 5, none⟩ = some f ∧ w.cell? ⟨p, 6, none⟩ = some g ∧ w.cell? ⟨p, 7, none⟩ = some h ∧ w.cell? ⟨p, 8, none⟩ = some i ∧ w.cell? ⟨p, 9, none⟩ = some j := ⟨hh.cell 0, hh.cell 1, hh.cell 2, hh.cell 3, hh.cell 4, hh.cell 5, hh.cell 6, hh.cell 7, hh.cell 8, hh.cell 9⟩
theorem Bk.c12 {w : World} {p t : Nat} {a b c d e f g h i j k l : Value} (hh : Bk w p t #[a, b, c, d, e, f, g, h, i, j, k, l]) : w.cell? ⟨p, 0, none⟩ = some a ∧ w.cell? ⟨p, 1, none⟩ = some b ∧ w.cell? ⟨p, 2, none⟩ = some c ∧ w.cell? ⟨p, 3, none⟩ = some d ∧ w.cell? ⟨p, 4, none⟩ = some e ∧ w.cell? ⟨p, 5, none⟩ = some f ∧ w.cell? ⟨p, 6, none⟩ = some g ∧ w.cell? ⟨p, 7, none⟩ = some h ∧ w.cell? ⟨p, 8, none⟩ = some i ∧ w.cell? ⟨p, 9, none⟩ = some j ∧ w.cell? ⟨p, 10, none⟩ = some k ∧ w.cell? ⟨p, 11, none⟩ = some l := ⟨hh.cell 0, hh.cell 1, hh.cell 2, hh.cell 3, hh.cell 4, hh.cell 5, hh.cell 6, hh.cell 7, hh.cell 8, hh.cell 9, hh.cell 10, hh.cell 11⟩

theorem Rv.len (r : Rv) : r.cs.length = 3 := rfl
theorem Rv.one (r : Rv) : ∀ u ∈ r.cs, u.oneCell' = true := fun u hu => by
  simp only [Rv.cs, List.mem_cons, List.not_mem_nil, or_false] at hu
  rcases hu with rfl | rfl | rfl <;> rfl
/-- A slice of numbers. -/
abbrev Rats (w : World) (x : Sv) (l : List Q) : Prop := Rows Rv.cs (fun w r q => r.Is w q) 41 3 w x l
theorem Rats.gr {w w' : World} {x : Sv} {l : List Q} (h : Rats w x l) (G : Gr w w') : Rats w' x l := Rows.gr (fun h G => Rv.Is.gr h G) h G
theorem Rats.len {w : World} {x : Sv} {l : List Q} (h : Rats w x l) : l.length = x.n := Rows.len Rv.len (by decide) h
theorem Rats.at {w : World} {x : Sv} {l : List Q} (h : Rats w x l) {i : Nat} {a : Q} (ha : l[i]? = some a) :
    ∃ (t : Rv) (ad : Addr), t.Is w a ∧ x.A = some ad ∧ w.cell? (ad.add (i * 3)) = some (.bool t.neg) ∧ w.cell? ⟨(ad.add (i * 3)).block, (ad.add (i * 3)).off + 1, none⟩ = some (.slice t.num.A t.num.n t.num.c) ∧ w.cell? ⟨(ad.add (i * 3)).block, (ad.add (i * 3)).off + 2, none⟩ = some (.slice t.den.A t.den.n t.den.c) := by
  obtain ⟨t, ht, hc⟩ := Rows.at Rv.len h ha
  obtain ⟨ad, hA, _, c0⟩ := hc 0 _ rfl
  obtain ⟨ad1, h1, _, c1⟩ := hc 1 _ rfl
  obtain ⟨ad2, h2, _, c2⟩ := hc 2 _ rfl
  rw [hA] at h1 h2
  cases h1; cases h2
  rw [add_in _ _ (by decide)] at c1 c2
  exact ⟨t, ad, ht, hA, c0, c1, c2⟩
structure Qm where
  g : Gm
  lo : List Q
  hi : List Q
  goal : Fm
structure Qv where
  g : Gv
  lo : Sv
  hi : Sv
  rows : Sv
  goal : Fv
abbrev Qv.v (q : Qv) : Value := .agg #[.int .i64 q.g.inputs, .slice q.g.units.A q.g.units.n q.g.units.c, .slice q.g.outs.A q.g.outs.n q.g.outs.c, .slice q.lo.A q.lo.n q.lo.c, .slice q.hi.A q.hi.n q.hi.c, .slice q.rows.A q.rows.n q.rows.c, .slice q.goal.terms.A q.goal.terms.n q.goal.terms.c, .bool q.goal.const.neg, .slice q.goal.const.num.A q.goal.const.num.n q.goal.const.num.c, .slice q.goal.const.den.A q.goal.const.den.n q.goal.const.den.c]
/-- A query without rows of the region. -/
structure Qv.Is (w : World) (q : Qv) (x : Qm) : Prop where
  g : q.g.Is w x.g
  lo : Rats w q.lo x.lo
  hi : Rats w q.hi x.hi
  rows : q.rows = Sv.none
  goal : q.goal.Is w x.goal
theorem Qv.Is.gr {w w' : World} {q : Qv} {x : Qm} (h : q.Is w x) (G : Gr w w') : q.Is w' x := ⟨h.g.gr G, h.lo.gr G, h.hi.gr G, h.rows, h.goal.gr G⟩
structure Qm.Va (x : Qm) : Prop where
  g : x.g.Va
  lo : x.lo.length = x.g.inputs
  hi : x.hi.length = x.g.inputs
  los : ∀ q ∈ x.lo, q.Sm ∧ q.Ok
  his : ∀ q ∈ x.hi, q.Sm ∧ q.Ok
  le : ∀ (i : Nat) (a b : Q), x.lo[i]? = some a → x.hi[i]? = some b → Q.cmpQ a b ≤ 0
  goal : x.goal.Sm (x.g.inputs + x.g.units.length)

set_option maxRecDepth 100000 in
set_option maxHeartbeats 4000000 in
theorem idxF0 (w : World) (fv : Value) :
    Calls Tryz.prog 112 #[.slice none 0 0, fv] w fun e w' => e = .returned (.int .i64 (-1)) ∧ Gr w w' := by
  go_enter Tryz.func112, Tryz.ntmps112
  go_wp2_with fail
  go_rounds 1
  go_ret
  exact ⟨rfl, Gr.refl w⟩
set_option maxRecDepth 100000 in
set_option maxHeartbeats 4000000 in
theorem conF0 (w : World) (fv : Value) :
    Calls Tryz.prog 70 #[.slice none 0 0, fv] w fun e w' => e = .returned (.bool false) ∧ Gr w w' := by
  go_enter Tryz.func70, Tryz.ntmps70
  go_wp2_with fail
  refine (idxF0 w fv).mono ?_
  rintro e w1 ⟨rfl, G⟩
  go_wp2
  go_ret
  exact ⟨rfl, G⟩

set_option maxRecDepth 100000 in
set_option maxHeartbeats 4000000 in
theorem idxD0 (w : World) (fv : Value) :
    Calls Tryz.prog 125 #[.slice none 0 0, fv] w fun e w' => e = .returned (.int .i64 (-1)) ∧ Gr w w' := by
  go_enter Tryz.func125, Tryz.ntmps125
  go_wp2_with fail
  go_rounds 1
  go_ret
  exact ⟨rfl, Gr.refl w⟩
set_option maxRecDepth 100000 in
set_option maxHeartbeats 4000000 in
theorem conD0 (w : World) (fv : Value) :
    Calls Tryz.prog 90 #[.slice none 0 0, fv] w fun e w' => e = .returned (.bool false) ∧ Gr w w' := by
  go_enter Tryz.func90, Tryz.ntmps90
  go_wp2_with fail
  refine (idxD0 w fv).mono ?_
  rintro e w1 ⟨rfl, G⟩
  go_wp2
  go_ret
  exact ⟨rfl, G⟩

set_option maxRecDepth 100000 in
set_option maxHeartbeats 4000000 in
theorem rgvalid_any (w : World) (lo hi : Sv) (l h : List Q) (n : Nat) (hl : Rats w lo l) (hh : Rats w hi h) (h1 : 1 ≤ n) (h2 : n ≤ 256) (hln : l.length = n) (hhn : h.length = n) (hls : ∀ q ∈ l, q.Sm ∧ q.Ok) (hhs : ∀ q ∈ h, q.Sm ∧ q.Ok) (hle : ∀ (i : Nat) (a b : Q), l[i]? = some a → h[i]? = some b → Q.cmpQ a b ≤ 0) :
    Calls Tryz.prog 51 #[.agg #[.slice lo.A lo.n lo.c, .slice hi.A hi.n hi.c, .slice none 0 0], .int .i64 n] w fun e w' => e = .returned (.bool true) ∧ Gr w w' := by
  have e1 := hl.len
  have e2 := hh.len
  obtain ⟨lA, ln, lc⟩ := lo
  obtain ⟨hA, hn, hc⟩ := hi
  simp only at e1 e2
  obtain rfl : ln = n := by omega
  obtain rfl : hn = ln := by omega
  have n0 : decide ((hn : Int) < 1) = false := by simp; omega
  have n1 : decide ((256 : Int) < (hn : Int)) = false := by simp; omega
  have m0 : decide (hn < 1) = false := by simp; omega
  have m1 : decide (256 < hn) = false := by simp; omega
  clear e1 e2
  obtain ⟨B1, B2, G⟩ := made2 w 36 3 (#[.slice lA hn lc, .slice hA hn hc, .slice none 0 0]) (#[.int .i64 hn])
  have HG := Lib.hid G
  have D_a := Lib.hid B1
  have D_b := Lib.hid B2
  clear G B1 B2
  have HL := Lib.hid hl
  have HH := Lib.hid hh
  have LL := Lib.hid hln
  have LH := Lib.hid hhn
  have SLx := Lib.hid hls
  have SHx := Lib.hid hhs
  have LE := Lib.hid hle
  clear hl hh hln hhn hls hhs hle
  go_enter Tryz.func51, Tryz.ntmps51
  go_upto_region 1 with fail
  generalize hW : (w.alloc (.cells #[.slice lA hn lc, .slice hA hn hc, .slice none 0 0] 36)).alloc (.cells #[.int .i64 hn] 3) = W at *
  clear hW
  have N_a : Hid (w.heap.size ≤ w.heap.size) := (by show w.heap.size ≤ w.heap.size; omega)
  have N_b : Hid (w.heap.size ≤ w.heap.size + 1) := (by show w.heap.size ≤ w.heap.size + 1; omega)
  generalize w.heap.size + 1 = b at *
  obtain ⟨a0, a1, a2⟩ := D_a.out.c3
  have b0 := D_b.out.c1
  go_wp2_with fail
  go_loopw [36] (fun i wr => ∃ k : Nat, i = .int .i64 k ∧ k ≤ hn ∧ Hid (Gr w wr) ∧ Hid (Bk wr w.heap.size 36 #[.slice lA hn lc, .slice hA hn hc, .slice none 0 0]) ∧ Hid (Bk wr b 3 #[.int .i64 hn])) (fun i _ => hn - (intOf i).toNat)
  case atStart => exact ⟨0, rfl, Nat.zero_le _, HG, D_a, D_b⟩
  case round =>
    obtain ⟨k, rfl, hk, HG2, DA, DB⟩ := hrel
    clear HG D_a D_b a0 a1 a2 b0
    obtain ⟨a0, a1, a2⟩ := DA.out.c3
    by_cases hkn : k < hn
    · obtain ⟨x, hx⟩ : ∃ x, l[k]? = some x := ⟨_, List.getElem?_eq_getElem (by rw [LL.out]; exact hkn)⟩
      obtain ⟨y, hy⟩ : ∃ y, h[k]? = some y := ⟨_, List.getElem?_eq_getElem (by rw [LH.out]; exact hkn)⟩
      obtain ⟨t, ad, ht, hA1, d0, d1, d2⟩ := (HL.out.gr HG2.out).at hx
      obtain ⟨s, bd, hs, hA2, e0, e1, e2⟩ := (HH.out.gr HG2.out).at hy
      simp only at hA1 hA2
      subst hA1 hA2
      have HT := Lib.hid ht
      have HS := Lib.hid hs
      have HX := Lib.hid (SLx.out x (List.mem_of_getElem? hx))
      have HY := Lib.hid (SHx.out y (List.mem_of_getElem? hy))
      have hcm := LE.out k x y hx hy
      generalize hcc : Q.cmpQ x y = cm at *
      have HCM := Lib.hid hcc
      have n2 : decide (0 < cm) = false := by simp; omega
      have hm9 : k < 9223372036854775807 := by omega
      clear hx hy ht hs hcc hcm
      go_wp2_with fail
      go_upto_region 6 with fail
      obtain ⟨B1, GB⟩ := made1 wr 41 #[.bool t.neg, .slice t.num.A t.num.n t.num.c, .slice t.den.A t.den.n t.den.c]
      have GT := Lib.hid GB
      obtain ⟨c0, c1, c2⟩ := B1.c3
      replace a0 := GB.keep a0
      replace a1 := GB.keep a1
      replace a2 := GB.keep a2
      replace e0 := GB.keep e0
      replace e1 := GB.keep e1
      replace e2 := GB.keep e2
      clear B1 GB d0 d1 d2
      generalize wr.alloc (.cells #[.bool t.neg, .slice t.num.A t.num.n t.num.c, .slice t.den.A t.den.n t.den.c] 41) = W3 at *
      generalize wr.heap.size = tb at *
      refine wp_region_any (by kernel_rfl) ?_
      have kc := Lib.hid (fun (W' : World) (G : Gr W3.drew W') => And.intro (G.keep c0) (And.intro (G.keep c1) (And.intro (G.keep c2) (And.intro (G.keep a0) (And.intro (G.keep a1) (And.intro (G.keep a2) (And.intro (G.keep e0) (And.intro (G.keep e1) (G.keep e2)))))))))
      have hst : ∀ p ∈ ([(1, fun v _ => v = .bool true), (9, fun v _ => v = .bool true), (19, fun v _ => v = .int .i64 cm)] : List (Nat × (Value → World → Prop))), ∀ (u : Value) (wA0 wB0 : World), Gr W3.drew wA0 → Gr wA0 wB0 → p.2 u wA0 → p.2 u wB0 := by
        intro p hp u wA0 wB0 h0 G h
        simp only [List.mem_cons, List.not_mem_nil, or_false] at hp
        rcases hp with rfl | rfl | rfl
        · exact h
        · exact h
        · exact h
      refine wpAny_walk (m := 0) (last := #[true, true, true, true, true, true, true, true, true, true, true, true, true, true, true, true, true, true, true, true, true, true]) [0, 1, 2, 3, 4, 5, 6, 7, 8, 9, 10, 11, 12, 13, 14, 15, 16, 17, 18, 19, 20, 21] [(1, fun v _ => v = .bool true), (9, fun v _ => v = .bool true), (19, fun v _ => v = .int .i64 cm)] (by kernel_rfl) (by decide) (by kernel_rfl) hst ?_
      clear hst
      refine Walk.take (v := ?wv1) rfl rfl (Or.inl ⟨by rfl, ?wy1⟩) ?wr1
      case wy1 => (intro w' hw'; obtain ⟨c0, c1, c2, a0, a1, a2, e0, e1, e2⟩ := kc.out w' hw'; go_simp; try with_reducible rfl)
      try simp only [Act.put, List.setIfInBounds_toArray, List.set_cons_zero, List.set_cons_succ]
      refine Walk.do rfl rfl (by rfl) (fun W1 G1 F1 => ?ws2) (fun v hv => ?wr2)
      case ws2 =>
        obtain ⟨c0, c1, c2, a0, a1, a2, e0, e1, e2⟩ := kc.out W1 G1
        refine doesAt_enter (f := 69) (args := #[.agg #[.bool t.neg, .slice t.num.A t.num.n t.num.c, .slice t.den.A t.den.n t.den.c]]) (by go_simp; try (first | with_reducible rfl | rfl)) ?_
        refine (rvalid_any W1 t x (HT.out.gr (GT.out.trans G1.of_drew)) HX.out.2 (Nat.le_trans HX.out.1.lo.num (by decide)) (Nat.lt_of_le_of_lt HX.out.1.lo.den (by decide))).mono ?_
        rintro e w' ⟨rfl, G⟩
        exact ⟨_, rfl, G, rfl⟩
      obtain ⟨_, -, -, rfl⟩ := hv
      try simp only [Act.put, List.setIfInBounds_toArray, List.set_cons_zero, List.set_cons_succ]
      refine Walk.take (v := ?wv3) rfl rfl (Or.inl ⟨by rfl, ?wy3⟩) ?wr3
      case wy3 => (intro w' hw'; obtain ⟨c0, c1, c2, a0, a1, a2, e0, e1, e2⟩ := kc.out w' hw'; go_simp; try with_reducible rfl)
      try simp only [Act.put, List.setIfInBounds_toArray, List.set_cons_zero, List.set_cons_succ]
      refine Walk.take (v := ?wv4) rfl rfl (Or.inl ⟨by rfl, ?wy4⟩) ?wr4
      case wy4 => (intro w' hw'; obtain ⟨c0, c1, c2, a0, a1, a2, e0, e1, e2⟩ := kc.out w' hw'; go_simp; try with_reducible rfl)
      try simp only [Act.put, List.setIfInBounds_toArray, List.set_cons_zero, List.set_cons_succ]
      refine Walk.take (v := ?wv5) rfl rfl (Or.inl ⟨by rfl, ?wy5⟩) ?wr5
      case wy5 => (intro w' hw'; obtain ⟨c0, c1, c2, a0, a1, a2, e0, e1, e2⟩ := kc.out w' hw'; go_simp; try with_reducible rfl)
      try simp only [Act.put, List.setIfInBounds_toArray, List.set_cons_zero, List.set_cons_succ]
      refine Walk.take (v := ?wv6) rfl rfl (Or.inl ⟨by rfl, ?wy6⟩) ?wr6
      case wy6 => (intro w' hw'; obtain ⟨c0, c1, c2, a0, a1, a2, e0, e1, e2⟩ := kc.out w' hw'; go_simp; try with_reducible rfl)
      try simp only [Act.put, List.setIfInBounds_toArray, List.set_cons_zero, List.set_cons_succ]
      refine Walk.take (v := ?wv7) rfl rfl (Or.inl ⟨by rfl, ?wy7⟩) ?wr7
      case wy7 => (intro w' hw'; obtain ⟨c0, c1, c2, a0, a1, a2, e0, e1, e2⟩ := kc.out w' hw'; go_simp; try with_reducible rfl)
      try simp only [Act.put, List.setIfInBounds_toArray, List.set_cons_zero, List.set_cons_succ]
      refine Walk.take (v := ?wv8) rfl rfl (Or.inl ⟨by rfl, ?wy8⟩) ?wr8
      case wy8 => (intro w' hw'; obtain ⟨c0, c1, c2, a0, a1, a2, e0, e1, e2⟩ := kc.out w' hw'; go_simp; try with_reducible rfl)
      try simp only [Act.put, List.setIfInBounds_toArray, List.set_cons_zero, List.set_cons_succ]
      refine Walk.take (v := ?wv9) rfl rfl (Or.inl ⟨by rfl, ?wy9⟩) ?wr9
      case wy9 => (intro w' hw'; obtain ⟨c0, c1, c2, a0, a1, a2, e0, e1, e2⟩ := kc.out w' hw'; go_simp; try with_reducible rfl)
      try simp only [Act.put, List.setIfInBounds_toArray, List.set_cons_zero, List.set_cons_succ]
      refine Walk.do rfl rfl (by rfl) (fun W1 G1 F1 => ?ws10) (fun v hv => ?wr10)
      case ws10 =>
        obtain ⟨c0, c1, c2, a0, a1, a2, e0, e1, e2⟩ := kc.out W1 G1
        refine doesAt_enter (f := 69) (args := #[.agg #[.bool s.neg, .slice s.num.A s.num.n s.num.c, .slice s.den.A s.den.n s.den.c]]) (by go_simp; try (first | with_reducible rfl | rfl)) ?_
        refine (rvalid_any W1 s y (HS.out.gr (GT.out.trans G1.of_drew)) HY.out.2 (Nat.le_trans HY.out.1.lo.num (by decide)) (Nat.lt_of_le_of_lt HY.out.1.lo.den (by decide))).mono ?_
        rintro e w' ⟨rfl, G⟩
        exact ⟨_, rfl, G, rfl⟩
      obtain ⟨_, -, -, rfl⟩ := hv
      try simp only [Act.put, List.setIfInBounds_toArray, List.set_cons_zero, List.set_cons_succ]
      refine Walk.take (v := ?wv11) rfl rfl (Or.inl ⟨by rfl, ?wy11⟩) ?wr11
      case wy11 => (intro w' hw'; obtain ⟨c0, c1, c2, a0, a1, a2, e0, e1, e2⟩ := kc.out w' hw'; go_simp; try with_reducible rfl)
      try simp only [Act.put, List.setIfInBounds_toArray, List.set_cons_zero, List.set_cons_succ]
      refine Walk.take (v := ?wv12) rfl rfl (Or.inl ⟨by rfl, ?wy12⟩) ?wr12
      case wy12 => (intro w' hw'; obtain ⟨c0, c1, c2, a0, a1, a2, e0, e1, e2⟩ := kc.out w' hw'; go_simp; try with_reducible rfl)
      try simp only [Act.put, List.setIfInBounds_toArray, List.set_cons_zero, List.set_cons_succ]
      refine Walk.take (v := ?wv13) rfl rfl (Or.inl ⟨by rfl, ?wy13⟩) ?wr13
      case wy13 => (intro w' hw'; obtain ⟨c0, c1, c2, a0, a1, a2, e0, e1, e2⟩ := kc.out w' hw'; go_simp; try with_reducible rfl)
      try simp only [Act.put, List.setIfInBounds_toArray, List.set_cons_zero, List.set_cons_succ]
      refine Walk.take (v := ?wv14) rfl rfl (Or.inl ⟨by rfl, ?wy14⟩) ?wr14
      case wy14 => (intro w' hw'; obtain ⟨c0, c1, c2, a0, a1, a2, e0, e1, e2⟩ := kc.out w' hw'; go_simp; try with_reducible rfl)
      try simp only [Act.put, List.setIfInBounds_toArray, List.set_cons_zero, List.set_cons_succ]
      refine Walk.take (v := ?wv15) rfl rfl (Or.inl ⟨by rfl, ?wy15⟩) ?wr15
      case wy15 => (intro w' hw'; obtain ⟨c0, c1, c2, a0, a1, a2, e0, e1, e2⟩ := kc.out w' hw'; go_simp; try with_reducible rfl)
      try simp only [Act.put, List.setIfInBounds_toArray, List.set_cons_zero, List.set_cons_succ]
      refine Walk.take (v := ?wv16) rfl rfl (Or.inl ⟨by rfl, ?wy16⟩) ?wr16
      case wy16 => (intro w' hw'; obtain ⟨c0, c1, c2, a0, a1, a2, e0, e1, e2⟩ := kc.out w' hw'; go_simp; try with_reducible rfl)
      try simp only [Act.put, List.setIfInBounds_toArray, List.set_cons_zero, List.set_cons_succ]
      refine Walk.take (v := ?wv17) rfl rfl (Or.inl ⟨by rfl, ?wy17⟩) ?wr17
      case wy17 => (intro w' hw'; obtain ⟨c0, c1, c2, a0, a1, a2, e0, e1, e2⟩ := kc.out w' hw'; go_simp; try with_reducible rfl)
      try simp only [Act.put, List.setIfInBounds_toArray, List.set_cons_zero, List.set_cons_succ]
      refine Walk.take (v := ?wv18) rfl rfl (Or.inl ⟨by rfl, ?wy18⟩) ?wr18
      case wy18 => (intro w' hw'; obtain ⟨c0, c1, c2, a0, a1, a2, e0, e1, e2⟩ := kc.out w' hw'; go_simp; try with_reducible rfl)
      try simp only [Act.put, List.setIfInBounds_toArray, List.set_cons_zero, List.set_cons_succ]
      refine Walk.take (v := ?wv19) rfl rfl (Or.inl ⟨by rfl, ?wy19⟩) ?wr19
      case wy19 => (intro w' hw'; obtain ⟨c0, c1, c2, a0, a1, a2, e0, e1, e2⟩ := kc.out w' hw'; go_simp; try with_reducible rfl)
      try simp only [Act.put, List.setIfInBounds_toArray, List.set_cons_zero, List.set_cons_succ]
      refine Walk.do rfl rfl (by rfl) (fun W1 G1 F1 => ?ws20) (fun v hv => ?wr20)
      case ws20 =>
        obtain ⟨c0, c1, c2, a0, a1, a2, e0, e1, e2⟩ := kc.out W1 G1
        refine doesAt_enter (f := 84) (args := #[.agg #[.bool t.neg, .slice t.num.A t.num.n t.num.c, .slice t.den.A t.den.n t.den.c], .agg #[.bool s.neg, .slice s.num.A s.num.n s.num.c, .slice s.den.A s.den.n s.den.c]]) (by go_simp; try (first | with_reducible rfl | rfl)) ?_
        refine ((show Calls _ _ _ _ (fun e w' => e = .returned (.int .i64 cm) ∧ Gr W1 w') from by rw [← HCM.out]; exact rcmp3_any W1 t s x y (HT.out.gr (GT.out.trans G1.of_drew)) (HS.out.gr (GT.out.trans G1.of_drew)) (Nat.le_trans HX.out.1.lo.num (by decide)) (Nat.le_trans HY.out.1.lo.num (by decide)) (Nat.lt_of_le_of_lt HX.out.1.lo.den (by decide)) (Nat.lt_of_le_of_lt HY.out.1.lo.den (by decide)))).mono ?_
        rintro e w' ⟨rfl, G⟩
        exact ⟨_, rfl, G, rfl⟩
      obtain ⟨_, -, -, rfl⟩ := hv
      try simp only [Act.put, List.setIfInBounds_toArray, List.set_cons_zero, List.set_cons_succ]
      refine Walk.take (v := ?wv21) rfl rfl (Or.inl ⟨by rfl, ?wy21⟩) ?wr21
      case wy21 => (intro w' hw'; obtain ⟨c0, c1, c2, a0, a1, a2, e0, e1, e2⟩ := kc.out w' hw'; go_simp; try with_reducible rfl)
      try simp only [Act.put, List.setIfInBounds_toArray, List.set_cons_zero, List.set_cons_succ]
      refine Walk.take (v := ?wv22) rfl rfl (Or.inl ⟨by rfl, ?wy22⟩) ?wr22
      case wy22 => (intro w' hw'; obtain ⟨c0, c1, c2, a0, a1, a2, e0, e1, e2⟩ := kc.out w' hw'; go_simp; try with_reducible rfl)
      try simp only [Act.put, List.setIfInBounds_toArray, List.set_cons_zero, List.set_cons_succ]
      refine Walk.done (fun W1 G1 F1 => ?_)
      clear F1
      have kc1 := kc.out W1 G1
      clear kc c0 c1 c2 a0 a1 a2 e0 e1 e2
      obtain ⟨c0, c1, c2, a0, a1, a2, e0, e1, e2⟩ := kc1
      refine wpAny_end (by kernel_rfl) ?_
      have HG4 := Lib.hid (HG2.out.trans (GT.out.trans G1.of_drew))
      have DA4 := Lib.hid ((GT.out.trans G1.of_drew).bk DA.out)
      have DB4 := Lib.hid ((GT.out.trans G1.of_drew).bk DB.out)
      clear G1 c0 c1 c2 a0 a1 a2 e0 e1 e2
      go_wp2
      go_roundw
      · exact ⟨k + 1, by go_num, by omega, HG4, DA4, DB4⟩
      · simp [intOf]; omega
    · obtain rfl : hn = k := by omega
      go_wp2_with fail
      refine (conF0 wr _).mono ?_
      rintro e w1 ⟨rfl, G⟩
      have HG3 := Lib.hid (HG2.out.trans G)
      clear G a0 a1 a2
      go_wp2
      go_ret
      exact ⟨rfl, HG3.out⟩

set_option maxRecDepth 100000 in
set_option maxHeartbeats 4000000 in
theorem qvalid_any (w : World) (q : Qv) (x : Qm) (hq : q.Is w x) (hx : x.Va) :
    Calls Tryz.prog 32 #[q.v] w fun e w' => e = .returned (.bool true) ∧ Gr w w' := by
  have hin := hq.g.inputs
  have hro := hq.rows
  have hun := hq.g.units.len
  obtain ⟨⟨gi, gu, go_⟩, lo, hi, rw_, goal⟩ := q
  simp only at hin hro hun
  subst hin hro
  obtain ⟨B1, G⟩ := made1 w 45 (#[.int .i64 x.g.inputs, .slice gu.A gu.n gu.c, .slice go_.A go_.n go_.c, .slice lo.A lo.n lo.c, .slice hi.A hi.n hi.c, .slice none 0 0, .slice goal.terms.A goal.terms.n goal.terms.c, .bool goal.const.neg, .slice goal.const.num.A goal.const.num.n goal.const.num.c, .slice goal.const.den.A goal.const.den.n goal.const.den.c])
  have HG := Lib.hid G
  have D_a := Lib.hid B1
  clear G B1
  have HQ := Lib.hid (hq.gr HG.out)
  have HX := Lib.hid hx
  have HUN := Lib.hid hun
  obtain ⟨a0, a1, a2, a3, a4, a5, a6, a7, a8, a9⟩ := D_a.out.c10
  clear hq hx hun
  go_enter Tryz.func32, Tryz.ntmps32
  go_wp2_with fail
  generalize hW : w.alloc (.cells #[.int .i64 x.g.inputs, .slice gu.A gu.n gu.c, .slice go_.A go_.n go_.c, .slice lo.A lo.n lo.c, .slice hi.A hi.n hi.c, .slice none 0 0, .slice goal.terms.A goal.terms.n goal.terms.c, .bool goal.const.neg, .slice goal.const.num.A goal.const.num.n goal.const.num.c, .slice goal.const.den.A goal.const.den.n goal.const.den.c] 45) = W at *
  clear hW
  have N_a : Hid (w.heap.size ≤ w.heap.size) := (by show w.heap.size ≤ w.heap.size; omega)
  refine (gvalid_any W _ x.g HQ.out.g HX.out.g).mono ?_
  rintro e w1 ⟨rfl, G1⟩
  replace HQ := Lib.hid (HQ.out.gr G1)
  replace D_a := Lib.hid (G1.bk D_a.out)
  replace HG := Lib.hid (HG.out.trans G1)
  clear G1 a0 a1 a2 a3 a4 a5 a6 a7 a8 a9
  obtain ⟨a0, a1, a2, a3, a4, a5, a6, a7, a8, a9⟩ := D_a.out.c10
  go_wp2_with fail
  refine (rgvalid_any w1 lo hi x.lo x.hi x.g.inputs HQ.out.lo HQ.out.hi HX.out.g.i0 HX.out.g.i9 HX.out.lo HX.out.hi HX.out.los HX.out.his HX.out.le).mono ?_
  rintro e w2 ⟨rfl, G1⟩
  replace HQ := Lib.hid (HQ.out.gr G1)
  replace D_a := Lib.hid (G1.bk D_a.out)
  replace HG := Lib.hid (HG.out.trans G1)
  clear G1 a0 a1 a2 a3 a4 a5 a6 a7 a8 a9
  obtain ⟨a0, a1, a2, a3, a4, a5, a6, a7, a8, a9⟩ := D_a.out.c10
  obtain ⟨vs, hvs⟩ : ∃ vs : Nat, vs = x.g.inputs + gu.n := ⟨_, rfl⟩
  have hw : IntKind.i64.wrap ((x.g.inputs : Int) + (gu.n : Int)) = (vs : Int) := by have h1 := HX.out.g.i9; have h2 := HX.out.g.u9; rw [HUN.out] at h2; rw [IntWalk.i64_in _ (by omega)]; omega
  have HV : Hid (vs = x.g.inputs + x.g.units.length) := by rw [HUN.out]; exact hvs
  clear hvs
  go_wp2_with fail
  refine (lvalid_any w2 goal x.goal vs HQ.out.goal (by rw [HV.out]; exact HX.out.goal.ok) (fun t ht => (HX.out.goal.num t ht).lo) HX.out.goal.const.lo).mono ?_
  rintro e w3 ⟨rfl, G1⟩
  replace HG := Lib.hid (HG.out.trans G1)
  clear G1 a0 a1 a2 a3 a4 a5 a6 a7 a8 a9
  go_wp2
  go_ret
  exact ⟨rfl, HG.out⟩
end Go.Proofs.YtcmfepaffhnemaaGreatDoor
