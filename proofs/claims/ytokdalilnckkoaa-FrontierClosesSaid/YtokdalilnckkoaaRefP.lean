/- The reference's push, walked. -/
import Derived.Test.YtokdalilnckkoaaRefT
import Derived.Deep.RegionHeld3
import Derived.Deep.DeepCutAuto
import Derived.Deep.RegionLaw
namespace Go.Proofs.Ytokdalilnckkoaa
open Go.RowKit Go.Shelf

attribute [local go_sem] Oper.semAt_some

theorem step_appS {P : Program} {t e size bytes : Nat} (h : ElemS P t e size bytes) {ops : Array Oper} {w : World} {o : Oper} {a : Act} {K : Act → World → Prop} {Q : Exit → Act → World → Prop} {E : Prop} (hgd : o.guard = none) (s x : Operand) (ho : o.op = .call { callee := .builtin .append, args := #[s, x], argTypes := #[t, t] })
    (base : Nat) (v : Value) (n : Nat) (xs : List Value) (hs : a.eval s = v) (hown : w.ownsRow base e size v n xs) (ad : Addr) (m c : Nat) (news : List Value) (hx : a.eval x = .slice (some ad) m c) (hl : news.length = m * size) (hnews : ∀ j u, news[j]? = some u → w.cell? (ad.add j) = some u) (h1 : ∀ u ∈ news, u.oneCell' = true)
    (h63 : n + m ≤ maxLen) (hbytes : (n + m) * bytes ≤ 140737488355328) (hbase : base ≤ w.heap.size)
    (hK : ∀ v' w', w'.ownsRow base e size v' (n + m) (xs ++ news) → w.grownBy w' v.ownBlock → K (a.put o.dst v') w') :
    if Region.wanted o (yielded ops a.tmps) = true then Oper.wp P o a w K Q else E := by
  have hw : Region.wanted o (yielded ops a.tmps) = true := by simp [Region.wanted, hgd]
  obtain ⟨i, z, hi, hz, hsz, hby, hzs⟩ := h.hi
  rw [if_pos hw]
  exact wp_append_own w s x t ho base e i z size bytes h.ht hi hz hsz hby hzs h.pos v n xs hs hown ad m c news hx hl hnews h1 h63 hbytes hbase (fun v' w' a b _ => hK v' w' a b)

/-- The append onto a row that the call owns, the new element laid in a new block. -/
theorem gw_of {w w' : World} {o : Obj} {v : Value} (hg : ((w.alloc o).drew).grownBy w' v.ownBlock) : Gw w w' v := by
  have hsz : ((w.alloc o).drew).heap.size = w.heap.size + 1 := World.size_alloc ..
  refine ⟨fun b hb hne => (hg.block b (by omega) (fun e => hne e.symm)).trans (Below.heap_alloc w o b hb), fun B hB hr => ?_⟩
  have hb0 : Below B w ((w.alloc o).drew) := ((Below.refl _ _).alloc hB _).drew
  exact hb0.grown hg (by omega) hr

theorem made_cells (w : World) (t : TypeId) (us : Array Value) (j : Nat) (u : Value) (h : us.toList[j]? = some u) : ((w.alloc (.cells us t)).drew).cell? ((⟨w.heap.size, 0, none⟩ : Addr).add j) = some u := by
  rw [add_mk, Nat.zero_add]
  refine ((Bk.made w t us).cell j).trans ?_
  rw [← Array.getElem?_toList]
  exact h

/-- The cells have grown by one. -/
theorem Rs.grow {w0 w w' : World} {B r go n co i q : Nat} {f : RF} {vc vc' : Value} {o : ROp} {p : Int × Int} (h : Rs w0 B r f vc go n co i q o w) (hown : w'.ownsRow B 109 2 vc' (f.cells.length + 1) (f.cells.flatMap cellC ++ cellC p)) (hG : Gw w w' vc) :
    Rs w0 B r { f with cells := f.cells ++ [p] } vc' go n co i q o (w'.setCell ⟨r, 0, none⟩ vc') ∧ Bk w' r 56 #[vc, .int .i64 f.top, .int .i64 f.pd, .slice (some ⟨go, 0, none⟩) n co] := by
  have hk : ∀ {b t : Nat} {cs : Array Value}, Bk w b t cs → t ≠ 109 → Bk w' b t cs := fun hb ht => hb.keep (hG.keep _ hb.lt (rw_ne h.rf.cs hb ht))
  have hfr := hk h.rf.fr (by decide)
  have hos : w'.ownsRow B 52 7 (.slice (some ⟨go, 0, none⟩) n co) ({ f with ops := f.ops.set i o } : RF).ops.length (({ f with ops := f.ops.set i o } : RF).ops.flatMap opC) := rw_keep h.rf.os fun b e => hG.keep b (rw_lt h.rf.os b e).2 (fun e' => h.rf.nco b e' e)
  have hrc : ∀ b, vc'.ownBlock = some b → b ≠ r := fun b e e' => rw_ne hown hfr (by decide) (by rw [e, e'])
  have hro : ∀ b, (Value.slice (some ⟨go, 0, none⟩) n co).ownBlock = some b → b ≠ r := fun b e e' => rw_ne hos hfr (by decide) (by rw [e, e'])
  have hbel : Below B w0 w' := h.fm.bel.trans (hG.bel B (by have := h.rf.hr; have := Bk.lt h.rf.fr; omega) (fun b e => (rw_lt h.rf.cs b e).1))
  refine ⟨⟨⟨?_, ?_, rw_keep hos fun b e => Below.heap_setCell _ _ _ _ (hro b e), h.rf.hr⟩, h.hi, h.len, h.hq, ⟨hbel.setCell h.rf.hr _, fun b hb ht => ?_⟩⟩, hfr⟩
  · have := Bk.put hfr 0 vc'
    exact this
  · have : w'.ownsRow B 109 2 vc' (f.cells ++ [p]).length ((f.cells ++ [p]).flatMap cellC) := by
      rw [List.length_append, List.flatMap_append]
      simpa using hown
    exact rw_keep this fun b e => Below.heap_setCell _ _ _ _ (hrc b e)
  · have h0 := h.fm.keep b hb ht
    have hne : ∀ t cs, Bk w b t cs → t ≠ 56 ∧ t ≠ 109 ∧ t ≠ 52 := fun t cs hh => ht cs t (h0.symm.trans hh)
    refine (Below.heap_setCell _ _ _ _ fun e => ?_).trans ((hG.keep b (Nat.lt_of_lt_of_le hb h.fm.bel.size) fun e => ?_).trans h0)
    · have e' : b = r := e
      subst e'
      exact (hne _ _ h.rf.fr).1 rfl
    · obtain ⟨cu, hcu⟩ := rw_bk h.rf.cs b e
      exact (hne _ _ hcu).2.1 rfl

set_option maxRecDepth 100000 in
set_option maxHeartbeats 1000000 in
theorem rpush_any (w : World) (B r go n co i q : Nat) (f : RF) (vc : Value) (o : ROp) (h : Rf w B r f vc (.slice (some ⟨go, 0, none⟩) n co)) (hi : f.ops[i]? = some o) (hn : f.ops.length = n) (hq : i * 7 = q) (hok : o.pc ≠ 1 → 0 ≤ o.cell ∧ o.cell < f.cells.length) (hcb : f.cells.length ≤ 1000) (hp1 : -1000 ≤ f.pd) (hp2 : f.pd ≤ 1000) :
    Calls Try.prog 40 #[.pointer (some ⟨r, 0, none⟩), .pointer (some ⟨go, q, none⟩)] w fun e w' => (∃ v, e = .returned v) ∧ ∃ vc', Rs w B r (rpush f o).1 vc' go n co i q (rpush f o).2 w' := by
  have R := Rs.start h hi hn hq
  clear h hi hn hq
  obtain ⟨a0, a1, a2, b0, b1, b2⟩ := R.hd
  obtain ⟨c0, c1, c2, c3, c4, c5, c6, f2, f3, f4, f5, f6⟩ := R.oc
  have hne : ¬ r = go := R.ne
  have hne' : ¬ go = r := fun e => hne e.symm
  obtain ⟨kind, item, pc, cell, read, got, res⟩ := o
  dsimp only at c0 c1 c2 c3 c4 c5 c6 hok
  replace R := Lib.hid R
  replace hok := Lib.hid hok
  by_cases h1 : pc = 1
  · subst h1
    have HT := Lib.hid (show rpush f ⟨kind, item, 1, cell, read, got, res⟩ = ({ f with pd := f.pd + 1, cells := f.cells ++ [(item, -1)] }, ⟨kind, item, 2, f.cells.length, read, got, res⟩) by simp [rpush])
    rw [HT.out]
    obtain ⟨Ac, cc, rfl⟩ := rw_form R.out.rf.cs
    go_enter Try.func40, Try.ntmps40
    go_wp2
    have R1 := R.out.pd (f.pd + 1)
    generalize w.setCell ⟨r, 2, none⟩ (.int .i64 (f.pd + 1)) = w1 at *
    clear a0 a1 a2 b0 b1 b2 c0 c1 c2 c3 c4 c5 c6 f2 f3 f4 f5 f6
    obtain ⟨a0, a1, a2, b0, b1, b2⟩ := R1.hd
    obtain ⟨c0, c1, c2, c3, c4, c5, c6, f2, f3, f4, f5, f6⟩ := R1.oc
    dsimp only at c0 c1 c2 c3 c4 c5 c6 a0 a1 a2
    have hB : B ≤ w1.heap.size := by have := R1.rf.hr; have := Bk.lt R1.rf.fr; omega
    have hrl : r < w1.heap.size := Bk.lt R1.rf.fr
    have hcs : Hid (∀ o : Obj, ((w1.alloc o).drew).ownsRow B 109 2 (.slice Ac f.cells.length cc) f.cells.length (f.cells.flatMap cellC)) := Lib.hid fun o => (World.ownsRow.alloc R1.rf.cs o).drew
    have HE0 : Hid (∀ w2 vc', w2.ownsRow B 109 2 vc' (f.cells.length + 1) (f.cells.flatMap cellC ++ cellC (item, -1)) → Gw w1 w2 (.slice Ac f.cells.length cc) → w2.cell? ⟨r, 0, none⟩ = some (.slice Ac f.cells.length cc) ∧ w2.frozen? ⟨r, 0, none⟩ = false) := Lib.hid fun w2 vc' h1 h2 => by
      obtain ⟨_, hfr⟩ := R1.grow (p := (item, -1)) h1 h2
      exact ⟨Bk.cell hfr 0, Bk.frozen hfr 0⟩
    replace R1 := Lib.hid R1
    go_cut [] (fun wx => ∃ vc', Hid (Rs w B r { f with pd := f.pd + 1, cells := f.cells ++ [(item, -1)] } vc' go n co i q ⟨kind, item, 1, cell, read, got, res⟩ wx))
    case first =>
      go_region_law (refine step_appS Try.cellsz (by rfl) _ _ (by rfl) B (.slice Ac f.cells.length cc) f.cells.length (f.cells.flatMap cellC) (by rfl) (hcs.out _) ⟨w1.heap.size, 0, none⟩ 1 1 [.int .i64 item, .int .i64 (-1)] (by rfl) (by rfl) (made_cells w1 109 #[.int .i64 item, .int .i64 (-1)]) (by simp [Value.oneCell']) (by unfold maxLen; omega) (by omega) (by simp; omega) ?_; intro vc' w2 hown hgrow; have hG : Gw w1 w2 (.slice Ac f.cells.length cc) := gw_of hgrow; have HX := Lib.hid (R1.out.grow (p := (item, -1)) hown hG).1; obtain ⟨e0, e1⟩ := HE0.out w2 vc' hown hG; obtain ⟨Ac', cc', hv'⟩ := rw_form hown; subst hv')
      all_goals (go_wp2_with fail; go_meet; exact ⟨_, HX.out.drewN 0⟩)
    case rest =>
      obtain ⟨vc', R2⟩ := hcut
      obtain ⟨Ac', cc', hv'⟩ := rw_form R2.out.rf.cs
      subst hv'
      clear a0 a1 a2 b0 b1 b2 c0 c1 c2 c3 c4 c5 c6 f2 f3 f4 f5 f6 hcs R1 R HE0
      obtain ⟨a0, a1, a2, b0, b1, b2⟩ := R2.out.hd
      obtain ⟨c0, c1, c2, c3, c4, c5, c6, f2, f3, f4, f5, f6⟩ := R2.out.oc
      dsimp only at c0 c1 c2 c3 c4 c5 c6 a0 a1 a2
      have hL1 : (f.cells ++ [(item, -1)]).length = f.cells.length + 1 := by simp
      rw [hL1] at a0
      clear hL1
      go_wp2
      go_end0
      exact ⟨⟨_, rfl⟩, _, (R2.out.op (j := 3) (o' := ⟨kind, item, 1, f.cells.length, read, got, res⟩) (by decide) rfl).op (j := 2) (by decide) rfl⟩
  have e1 : (pc == 1) = false := by simpa using h1
  obtain ⟨hr0, hr1⟩ := hok.out h1
  by_cases h2 : pc = 2
  · subst h2
    obtain ⟨k, rfl⟩ := Int.eq_ofNat_of_zero_le hr0
    have hkl : k < f.cells.length := by omega
    obtain ⟨⟨it, nx⟩, hkc⟩ : ∃ p, f.cells[k]? = some p := ⟨_, List.getElem?_eq_getElem hkl⟩
    have HT := Lib.hid (show rpush f ⟨kind, item, 2, k, read, got, res⟩ = ({ f with cells := f.cells.set k (it, f.top) }, ⟨kind, item, 3, k, f.top, got, res⟩) by simp [rpush, List.getD_eq_getElem?_getD, hkc])
    rw [HT.out]
    obtain ⟨gc, cc, rfl, hnc, hrc⟩ : ∃ gc cc, vc = .slice (some ⟨gc, 0, none⟩) f.cells.length cc ∧ ¬ gc = go ∧ ¬ gc = r := by
      have hcs : w.ownsRow B 109 2 vc f.cells.length (f.cells.flatMap cellC) := R.out.rf.cs
      have hn := R.out.rf.nco
      have hn' := R.out.rf.nec
      rcases hcs.2 with ⟨_, h0⟩ | ⟨g, cap, cur, rfl, _⟩
      · omega
      · exact ⟨g, cap, rfl, fun e => hn g rfl (by rw [e]; rfl), fun e => hn' (by rw [e]; rfl)⟩
    generalize hL : f.cells.length = L at *
    have hL' := Lib.hid hL
    clear hL
    replace hkc := Lib.hid hkc
    have hkL : (k : Int) < L := by omega
    go_enter Try.func40, Try.ntmps40
    go_wp2
    have R1 := R.out.op (j := 4) (x := .int .i64 f.top) (o' := ⟨kind, item, 2, k, f.top, got, res⟩) (by decide) rfl
    generalize w.setCell ⟨go, q + 4, none⟩ (.int .i64 f.top) = w1 at *
    clear a0 a1 a2 b0 b1 b2 c0 c1 c2 c3 c4 c5 c6 f2 f3 f4 f5 f6
    obtain ⟨a0, a1, a2, b0, b1, b2⟩ := R1.hd
    obtain ⟨c0, c1, c2, c3, c4, c5, c6, f2, f3, f4, f5, f6⟩ := R1.oc
    obtain ⟨d0, d1, d2⟩ := R1.cc hL'.out hkc.out
    dsimp only at c0 c1 c2 c3 c4 c5 c6 d0 d1
    replace R1 := Lib.hid R1
    go_still_tail 14, (by kernel_rfl)
    change wpList _ _ _ _ _ w1.drew
    go_wp2
    go_end0
    have R2 := R1.out
    rw [← hL'.out] at R2
    have R3 := ((R2.cell (j := 1) (x := .int .i64 f.top) (p' := (it, f.top)) hkc.out (by decide) rfl).op (j := 2) (x := .int .i64 3) (o' := ⟨kind, item, 3, k, f.top, got, res⟩) (by decide) rfl).drew
    exact ⟨⟨_, rfl⟩, _, R3⟩
  · have e2 : (pc == 2) = false := by simpa using h2
    have R1 := R.out.op (j := 2) (x := .int .i64 2) (o' := ⟨kind, item, 2, cell, read, got, res⟩) (by decide) rfl
    by_cases ht : f.top = read
    · have HT := Lib.hid (show rpush f ⟨kind, item, pc, cell, read, got, res⟩ = ({ f with top := cell }, ⟨kind, item, 0, cell, read, got, res⟩) by simp [rpush, h1, h2, ht])
      rw [HT.out]
      go_enter Try.func40, Try.ntmps40
      go_wp2
      generalize w.setCell ⟨go, q + 2, none⟩ (.int .i64 2) = w1 at *
      clear a0 a1 a2 b0 b1 b2 c0 c1 c2 c3 c4 c5 c6 f2 f3 f4 f5 f6
      obtain ⟨a0, a1, a2, b0, b1, b2⟩ := R1.hd
      obtain ⟨c0, c1, c2, c3, c4, c5, c6, f2, f3, f4, f5, f6⟩ := R1.oc
      dsimp only at c0 c1 c2 c3 c4 c5 c6
      rw [ht] at a1
      replace R1 := Lib.hid R1
      go_quiet (fail)
      go_wp2
      go_end0
      exact ⟨⟨_, rfl⟩, _, ((R1.out.top cell).op (j := 2) (o' := ⟨kind, item, 0, cell, read, got, res⟩) (by decide) rfl).drewN _⟩
    · have ht' : (f.top == read) = false := by simpa using ht
      have HT := Lib.hid (show rpush f ⟨kind, item, pc, cell, read, got, res⟩ = (f, ⟨kind, item, 2, cell, read, got, res⟩) by simp [rpush, h1, h2, ht])
      rw [HT.out]
      go_enter Try.func40, Try.ntmps40
      go_wp2
      generalize w.setCell ⟨go, q + 2, none⟩ (.int .i64 2) = w1 at *
      clear a0 a1 a2 b0 b1 b2 c0 c1 c2 c3 c4 c5 c6 f2 f3 f4 f5 f6
      obtain ⟨a0, a1, a2, b0, b1, b2⟩ := R1.hd
      obtain ⟨c0, c1, c2, c3, c4, c5, c6, f2, f3, f4, f5, f6⟩ := R1.oc
      dsimp only at c0 c1 c2 c3 c4 c5 c6
      replace R1 := Lib.hid R1
      go_quiet (fail)
      go_wp2
      go_end0
      exact ⟨⟨_, rfl⟩, _, R1.out.drewN _⟩

end Go.Proofs.Ytokdalilnckkoaa
