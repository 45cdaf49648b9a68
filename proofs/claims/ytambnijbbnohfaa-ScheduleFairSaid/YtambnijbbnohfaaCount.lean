/- A step of a counter. -/
import Derived.Test.YtambnijbbnohfaaIn
import Derived.Deep.RegionHeld3
import Derived.Deep.DeepCutAuto
namespace Go.Proofs.Ytambnijbbnohfaa
open Go.RowKit

theorem step_app {P : Program} {t e : TypeId} {bytes : Nat} (h : OneCell P t e bytes) {ops : Array Oper} {w : World} {o : Oper} {a : Act} {K : Act → World → Prop} {Q : Exit → Act → World → Prop} {E : Prop} (hgd : o.guard = none) (s x : Operand) (ho : o.op = .call { callee := .builtin .append, args := #[s, x], argTypes := #[t, t] })
    (base : Nat) (v : Value) (xs : List Value) (hs : a.eval s = v) (hown : w.ownsRow base e 1 v xs.length xs) (B : Nat) (A : Option Addr) (m c : Nat) (ys : List Value) (hx : a.eval x = .slice A m c) (hys : ys.length = m) (hsee : Sees w B A ys) (h1 : ∀ u ∈ ys, u.oneCell' = true)
    (h63 : xs.length + m ≤ maxLen) (hbytes : (xs.length + m) * bytes ≤ 140737488355328) (hbase : base ≤ w.heap.size)
    (hK : ∀ v' w', w'.ownsRow base e 1 v' (xs ++ ys).length (xs ++ ys) → w.grownBy w' v.ownBlock → (v'.ownBlock = v.ownBlock ∨ v'.ownBlock = some w.heap.size) → K (a.put o.dst v') w') :
    if Region.wanted o (yielded ops a.tmps) = true then Oper.wp P o a w K Q else E := by
  have hw : Region.wanted o (yielded ops a.tmps) = true := by simp [Region.wanted, hgd]
  rw [if_pos hw]
  exact wp_app h w s x ho base v xs hs hown B A m c ys hx hys hsee h1 h63 hbytes hbase hK

theorem own_app {w : World} {B : Nat} {v : Value} {xs ys : List Int} (h : w.ownsRow B 3 1 v (xs.map (Value.int .i64) ++ ys.map (Value.int .i64)).length (xs.map (Value.int .i64) ++ ys.map (Value.int .i64))) : OwnI w B v (xs ++ ys) := by
  unfold OwnI
  rw [← List.map_append, List.length_map] at h
  exact h

/-- Only the counter's block, the log's variable and the log's row have turned; the log is one longer. -/
structure CMid (gc bl B : Nat) (k x : Int) (log : List Int) (vlog : Value) (w w' : World) : Prop where
  below : Below B w w'
  ex : ∃ v, Bk w' gc 57 #[.int .i64 k, .int .i64 x, .pointer (some ⟨bl, 0, none⟩)] ∧ Bk w' bl 22 #[v] ∧ OwnI w' B v (log ++ [k]) ∧ (v.ownBlock = vlog.ownBlock ∨ ∀ b, v.ownBlock = some b → w.heap.size ≤ b) ∧
    ∀ b, b < w.heap.size → b ≠ gc → b ≠ bl → vlog.ownBlock ≠ some b → w'.heap[b]? = w.heap[b]?

theorem cmid {gc bl B : Nat} {k x : Int} {log : List Int} {vlog v' v2 : Value} {w w1 : World} {o : Obj} (h1 : Bk w gc 57 #[.int .i64 k, .int .i64 x, .pointer (some ⟨bl, 0, none⟩)]) (h2 : Bk w bl 22 #[vlog]) (h3 : OwnI w B vlog log) (hB : B ≤ w.heap.size ∧ B ≤ gc ∧ B ≤ bl)
    (ag : vlog.ownBlock ≠ some gc) (ab : vlog.ownBlock ≠ some bl) (hbb : ¬ bl = gc) (hown : OwnI w1 B v' (log ++ [k])) (hv : v' = v2) (hg : ((w.alloc o).drew).grownBy w1 vlog.ownBlock) (hob : v'.ownBlock = vlog.ownBlock ∨ v'.ownBlock = some ((w.alloc o).drew).heap.size) :
    CMid gc bl B k x log vlog w (w1.setCell ⟨bl, 0, none⟩ v2) := by
  subst hv
  have hsz : ((w.alloc o).drew).heap.size = w.heap.size + 1 := World.size_alloc ..
  have hkeep : ∀ b, b < w.heap.size → vlog.ownBlock ≠ some b → w1.heap[b]? = w.heap[b]? := fun b hb hne => (hg.block b (by omega) (fun e => hne e.symm)).trans (Below.heap_alloc w o b hb)
  have hgc := h1.keep (hkeep gc h1.lt ag)
  have hbl := h2.keep (hkeep bl h2.lt ab)
  have hnb : ∀ b, v'.ownBlock = some b → b ≠ bl := fun b e e' => hown.ne hbl (by decide) (by rw [e, e'])
  refine ⟨?_, v', hgc.other (fun e => hbb e.symm) _, hbl.put 0 _, hown.keep fun b e => Below.heap_setCell _ _ _ _ (hnb b e), ?_, fun b hb e1 e2 e3 => (Below.heap_setCell _ _ _ _ e2).trans (hkeep b hb e3)⟩
  · have hb0 : Below B w ((w.alloc o).drew) := ((Below.refl _ _).alloc hB.1 _).drew
    exact (hb0.grown hg (by omega) (fun b e => (h3.lt b e).1)).setCell hB.2.2 _
  · rcases hob with h | h
    · exact .inl h
    · refine .inr fun b e => ?_
      rw [e] at h
      injection h with h
      omega

set_option maxRecDepth 100000 in
set_option maxHeartbeats 3200000 in
theorem cstep_any (gc bl B : Nat) (k : Int) (x : Int) (log : List Int) (vlog : Value) (w : World) (h1 : Bk w gc 57 #[.int .i64 k, .int .i64 x, .pointer (some ⟨bl, 0, none⟩)]) (h2 : Bk w bl 22 #[vlog]) (h3 : OwnI w B vlog log) (hB : B ≤ w.heap.size ∧ B ≤ gc ∧ B ≤ bl) (hl : log.length ≤ 1000000) (hx : -1000000 ≤ x) (hx' : x ≤ 1000000) :
    Calls Try.prog 51 #[.pointer (some ⟨gc, 0, none⟩)] w fun e w' => e = .returned (.bool (decide (x - 1 ≤ 0))) ∧ CMid gc bl B k (x - 1) log vlog w w' := by
  obtain ⟨Al, cl, rfl, hcl, _⟩ := h3.form
  have c0 : w.cell? ⟨gc, 0, none⟩ = some (.int .i64 k) := by rw [h1.cell]; rfl
  have c1 : w.cell? ⟨gc, 1, none⟩ = some (.int .i64 x) := by rw [h1.cell]; rfl
  have c2 : w.cell? ⟨gc, 2, none⟩ = some (.pointer (some ⟨bl, 0, none⟩)) := by rw [h1.cell]; rfl
  have c3 : w.cell? ⟨bl, 0, none⟩ = some (.slice Al log.length cl) := by rw [h2.cell]; rfl
  have f3 : w.frozen? ⟨bl, 0, none⟩ = false := h2.frozen 0
  have FZ : Hid (∀ o : Obj, ((w.alloc o).drew).frozen? ⟨bl, 0, none⟩ = false) := fun o => (h2.alloc o).frozen 0
  have HO : Hid (∀ o : Obj, ((w.alloc o).drew).ownsRow B 3 1 (.slice Al log.length cl) (log.map (Value.int .i64)).length (log.map (Value.int .i64))) := fun o => by rw [List.length_map]; exact (World.ownsRow.alloc h3 o).drew
  have CZ : Hid (∀ o : Obj, ((w.alloc o).drew).cell? ⟨bl, 0, none⟩ = some (.slice Al log.length cl)) := fun o => by show _ = _; exact ((h2.alloc o).cell 0).trans rfl
  have GZ : Hid (∀ o : Obj, ((w.alloc o).drew).cell? ⟨gc, 2, none⟩ = some (.pointer (some ⟨bl, 0, none⟩))) := fun o => by show _ = _; exact ((h1.alloc o).cell 2).trans rfl
  have hBg := hB.2.1
  have hB1 := hB.1
  have l1 := h1.lt
  have l2 := h2.lt
  have hbb : ¬ bl = gc := h2.ne h1 (by decide)
  have ag : (Value.slice Al log.length cl).ownBlock ≠ some gc := h3.ne h1 (by decide)
  have ab : (Value.slice Al log.length cl).ownBlock ≠ some bl := h3.ne h2 (by decide)
  go_enter Try.func51, Try.ntmps51
  go_upto_region 1 with fail
  go_cut [2] (fun s2 wx => s2 = .bool false ∧ CMid gc bl B k x log (.slice Al log.length cl) w wx)
  case first =>
    go_region_law (refine step_app Try.ints (by rfl) _ _ (by rfl) B (.slice Al log.length cl) (log.map (Value.int .i64)) (by rfl) (HO.out _) (w.heap.size + 1) (some ⟨w.heap.size, 0, none⟩) 1 1 [.int .i64 k] (by rfl) (by rfl) (fun j u hj => ⟨_, rfl, by simp, cell_one_new _ _ _ j u hj⟩) (by simp [Value.oneCell']) (by rw [List.length_map]; unfold maxLen; omega) (by rw [List.length_map]; omega) (by simp; omega) ?_; intro v' w1 hown' hgrow hob; have fz := (World.frozen?_of_block (hgrow.block bl (by simp; omega) (Ne.symm ab))).trans (FZ.out _); have cz := (World.cell?_of_block (hgrow.block bl (by simp; omega) (Ne.symm ab))).trans (CZ.out _); have gz := (World.cell?_of_block (a := ⟨gc, 2, none⟩) (hgrow.block gc (by simp; omega) (Ne.symm ag))).trans (GZ.out _); have hown1 : OwnI w1 B v' (log ++ [k]) := own_app (xs := log) (ys := [k]) hown'; obtain ⟨A2, c2, hv2, hc2, _⟩ := hown1.form; rw [hv2])
    all_goals (go_wp2_with fail; go_meet; exact ⟨rfl, cmid h1 h2 h3 hB ag ab hbb hown1 (by rw [hv2, List.length_append]; rfl) hgrow hob⟩)
  case rest =>
    obtain ⟨rfl, hbel, v', hg1, hb1, ho1, hob1, hk1⟩ := hcut
    have d1 : wc.cell? ⟨gc, 1, none⟩ = some (.int .i64 x) := by rw [hg1.cell]; rfl
    have d2 : wc.frozen? ⟨gc, 1, none⟩ = false := hg1.frozen 1
    clear c0 c1 c2 c3 f3 FZ HO CZ GZ
    go_wp2
    go_ret
    have hne : ∀ b, v'.ownBlock = some b → b ≠ gc := fun b e e' => ho1.ne hg1 (by decide) (by rw [e, e'])
    exact ⟨rfl, (hbel.setCell hBg _), v', hg1.put 1 _, hb1.other (fun e => hbb e) _, ho1.keep fun b e => Below.heap_setCell _ _ _ _ (hne b e), hob1, fun b hb e1 e2 e3 => (Below.heap_setCell _ _ _ _ e1).trans (hk1 b hb e1 e2 e3)⟩

end Go.Proofs.Ytambnijbbnohfaa
