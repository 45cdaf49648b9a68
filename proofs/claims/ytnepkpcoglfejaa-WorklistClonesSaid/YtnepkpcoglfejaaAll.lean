/- All and its iterator. -/
import Derived.Test.YtnepkpcoglfejaaEnv
import Derived.Test.YtnepkpcoglfejaaSortedA
import Derived.RangeFuncNested
import Derived.RangeFuncBound
import Derived.RangeFuncCalls
import Derived.RangeFuncLeaves
import Derived.Shelf.Abstract
import Derived.Shelf.RegionOpen
import Derived.OwnWalkIn
import Derived.TacticsInMore
import Derived.LoopNIn
import Derived.LoopIn
namespace Go.Proofs.Ytnepkpcoglfejaa
open Go.RowKit Go.Shelf

attribute [local go_sem] Oper.semAt_some

/-- A function with a range over a function, walked at the wide fence. -/
theorem calls_of_wp_marks {P : Program} {f : FuncId} {fn : Func} {c : Code} {args : Array Value} {w : World} {R : Ending → World → Prop}
    (hf : P.funcs[f]? = some fn) (hb : fn.body = some c)
    (h : c.wp P (bodyPostM Fence.wide 9 P fn R) { tmps := args ++ Array.replicate (fn.ntmps - args.size) undef, defers := [] } w) : Calls P f args w R :=
  callsIn_wide.1 (callsIn_of_wp_marks (F := Fence.wide) (n := 9) hf hb trivial (wpIn_wide.2 h) rfl)

/-- All blocks of cells but those of X lie as they lay. -/
structure Ky (X : Nat → Prop) (A B : World) : Prop where
  bel : Below 0 A B
  keep : ∀ b o, A.heap[b]? = some o → o.isCells = true → ¬ X b → B.heap[b]? = some o
section
variable {X : Nat → Prop} {A B C w : World}
theorem Ky.trans (h : Ky X A B) (k : Ky X B C) : Ky X A C := ⟨h.bel.trans k.bel, fun b o ho hc hx => k.keep b o (h.keep b o ho hc hx) hc hx⟩
theorem Ky.refl (X : Nat → Prop) (A : World) : Ky X A A := ⟨.refl _ _, fun _ _ h _ _ => h⟩
theorem Ky.put (W : World) (l : Nat) (o o' : Obj) (_ : w.heap.size ≤ l) (h : W.heap[l]? = some o) (hc : o.isCells = false) (_ : o.isWalk = false) : Ky X W (W.putObj l o') :=
  ⟨(Below.refl 0 W).grown (grownBy_putObj' W l o') (Nat.zero_le _) (fun _ _ => Nat.zero_le _), fun b o2 h2 hc2 _ => ((grownBy_putObj' W l o').block b (Array.getElem?_eq_some_iff.1 h2).1 (fun e => by
    injection e with e
    subst e
    rw [h] at h2
    injection h2 with h2
    rw [h2, hc2] at hc
    cases hc)).trans h2⟩
theorem Ky.set (W : World) (p : Addr) (v : Value) (hX : X p.block) : Ky X W (W.setCell p v) :=
  ⟨(Below.refl 0 W).setCell (Nat.zero_le _) v, fun b _ h _ hx => (Below.heap_setCell W p v b fun e => hx (e ▸ hX)).trans h⟩
theorem Ky.of (h : Fr X A B) : Ky X A B := ⟨h.bel, fun b _ ho _ hx => (h.keep b (Array.getElem?_eq_some_iff.1 ho).1 hx).trans ho⟩
theorem Ky.bk (h : Ky X A B) {g t : Nat} {cs : Array Value} (hb : Bk A g t cs) (hx : ¬ X g) : Bk B g t cs := h.keep g _ hb rfl hx
theorem Ky.row (h : Ky X A B) {b e k n : Nat} {v : Value} {xs : List Value} (hr : A.ownsRow b e k v n xs) (hx : ∀ g, v.ownBlock = some g → ¬ X g) : B.ownsRow b e k v n xs := by
  refine rw_keep hr fun g hg => ?_
  obtain ⟨cur, hb⟩ := rw_bk hr g hg
  exact (h.bk hb (hx g hg)).trans hb.symm
theorem grown_of (h : Fr (fun _ => False) A B) : A.grownBy B none := ⟨h.bel.os, h.bel.tape, h.bel.output, h.bel.size, fun b hb _ => h.keep b hb id⟩
end

set_option maxHeartbeats 400000 in
theorem allA (p : Option Addr) (w : World) :
    Calls Try.prog 22 #[.pointer p] w fun e w' => e = .returned (.func (.func 43) #[] #[.pointer (some ⟨w.heap.size, 0, none⟩)]) ∧ w' = w.alloc (.cells #[.pointer p] 24) := by
  go_enter Try.func22, Try.ntmps22
  go_wp2
  go_ret
  exact ⟨rfl, rfl⟩

section
variable {ok : (Int × Int) → Prop} {lt : (Int × Int) → (Int × Int) → Bool} {fv : Value}
set_option maxRecDepth 100000 in
set_option maxHeartbeats 1000000 in
theorem all1A (L : Lc Try.prog encXA ok lt fv (fun _ => False) (fun _ _ => True) Rg) (n : Nat) (hn : 1 ≤ n) (l Bn p B N m : Nat) (hv : Value) (E : List ((Int × Int) × Int)) (X : Nat → Prop) (J Jx : List (Int × Int) → World → Prop)
    (hY : ∀ pre x W, J pre W → pre.length < m → YieldAt Fence.wide (n - 1) Try.prog l #[.agg #[.int .i64 x.1, .int .i64 x.2]] W fun e W' =>
      (e = .returned (.bool true) ∧ J (pre ++ [x]) W' ∧ Ky X W W') ∨ (e = .returned (.bool false) ∧ Jx (pre ++ [x]) W'))
    (W : World) (hJa : ∀ s W1 W2, J s W1 → W1.grownBy W2 none → J s W2) (hX : ∀ b, X b → b < W.heap.size) (hBn : W.cell? ⟨Bn, 0, none⟩ = some (.pointer (some ⟨p, 0, none⟩))) (hW : WlA W p B fv hv lt E N) (ho : ∀ e ∈ E, ok e.1) (hm : E.length = m) (hm6 : m ≤ 1000000) (h0 : J [] W) :
    CallsIn Fence.wide n Try.prog 43 #[.func (.yield l) #[] #[], .pointer (some ⟨Bn, 0, none⟩)] W fun e W' => (∃ v, e = .returned v) ∧
      ((∃ ys, ys = E.map (·.1) ∧ J ys W') ∨ (∃ pre, pre <+: E.map (·.1) ∧ Jx pre W')) := by
  have H := sortedA L W p B N hv E hW ho (by omega)
  rw [hm] at H
  replace H := Lib.hid H
  have HM := Lib.hid hm
  have HJA := Lib.hid hJa
  have HX := Lib.hid hX
  have hpl : p < W.heap.size := hW.bd.1
  have HY := Lib.hid hY
  clear hW hm hJa hX hY
  refine callsIn_of_wp Try.func43 rfl trivial ?_ rfl
  simp only [Try.ntmps43, List.size_toArray, List.length_cons, List.length_nil, Nat.reduceAdd, Nat.reduceSub, Array.replicate_succ, Array.replicate_zero, List.push_toArray, List.append_toArray, List.nil_append, List.cons_append]
  gi_wp2_with (refine ⟨trivial, ?_⟩; gi_at_call 44; refine (callsIn_wide.2 H.out).mono ?_; rintro e w1 ⟨va, rfl, ra, F1⟩; obtain ⟨A, cp, hva⟩ := rw_form ra; subst hva)
  have hJ1 := HJA.out _ _ _ h0 (grown_of F1)
  have HR1 := Lib.hid ra
  clear ra F1
  gi_loopw [10] (fun i wr => ∃ t : Nat, i = .int .i64 t ∧ t ≤ m ∧ Hid (wr.ownsRow W.heap.size 73 3 (.slice A m cp) m (E.flatMap encEA)) ∧ J ((E.map (·.1)).take t) wr) (fun i _ => m - (intOf i).toNat)
  case atStart => exact ⟨0, rfl, Nat.zero_le _, HR1, hJ1⟩
  case round =>
    obtain ⟨t, rfl, ht, hR, hJ⟩ := hrel
    by_cases htm : t < m
    · obtain ⟨e, he⟩ : ∃ e, E[t]? = some e := ⟨_, List.getElem?_eq_getElem (by rw [HM.out]; omega)⟩
      have h2 := hR.out
      obtain ⟨g, rfl⟩ : ∃ g, A = some ⟨g, 0, none⟩ := by
        obtain ⟨_, ⟨_, h0⟩ | ⟨g', cap, cur, hv2, _⟩⟩ := h2
        · omega
        · injection hv2 with hv2
          exact ⟨g', hv2⟩
      obtain ⟨⟨e1, e2⟩, en⟩ := e
      have ce1 : wr.cell? ⟨g, t * 3, none⟩ = some (.int .i64 e1) := row_cell (F := encEA) (k := 3) (j := 0) (fun _ => rfl) h2 he (by decide)
      have ce2 : wr.cell? ⟨g, t * 3 + 1, none⟩ = some (.int .i64 e2) := row_cell (F := encEA) (k := 3) (j := 1) (fun _ => rfl) h2 he (by decide)
      have ce3 : wr.cell? ⟨g, t * 3 + 2, none⟩ = some (.int .i64 en) := row_cell (F := encEA) (k := 3) (j := 2) (fun _ => rfl) h2 he (by decide)
      have hgl : g < wr.heap.size := (rw_lt h2 g rfl).2
      have hJ2 := HJA.out _ _ _ hJ (World.grownBy_alloc wr (.cells #[.int .i64 e1, .int .i64 e2, .int .i64 en] 73) none)
      obtain ⟨fn, tmps, assign, body, hy, hRR⟩ := HY.out _ (e1, e2) _ hJ2 (by rw [List.length_take, List.length_map, HM.out]; omega)
      have hR2 := Lib.hid (World.ownsRow.alloc h2 (.cells #[.int .i64 e1, .int .i64 e2, .int .i64 en] 73))
      have HTK : Hid ((E.map (·.1)).take t ++ [(e1, e2)] = (E.map (·.1)).take (t + 1)) := by
        rw [List.take_add_one, List.getElem?_map, he]
        exact rfl
      have HGX : Hid (¬ X g) := fun hx => by have := HX.out g hx; have := (rw_lt h2 g rfl).1; omega
      clear h2 hR he hJ2
      gi_wp2
      refine hRR.mono ?_
      rintro e W3 (⟨rfl, hJ3, hk3⟩ | ⟨rfl, hJx3⟩)
      · have hR3 := Lib.hid (hk3.row hR2.out (fun g' e => by injection e with e; exact e ▸ HGX.out))
        rw [HTK.out] at hJ3
        clear hk3
        gi_wp2
        go_roundw
        case rel => exact ⟨t + 1, by go_num, by omega, hR3, hJ3⟩
        case measure => simp [intOf]; omega
      · rw [HTK.out] at hJx3
        gi_wp2
        refine bodyPost_ret (results_none rfl _ _ _) rfl ?_
        exact ⟨⟨_, rfl⟩, .inr ⟨_, List.take_prefix _ _, hJx3⟩⟩
    · obtain rfl : t = m := by omega
      rw [List.take_of_length_le (by rw [List.length_map, HM.out]; exact Nat.le_refl _)] at hJ
      gi_wp2
      go_end0
      exact ⟨⟨_, rfl⟩, .inl ⟨_, rfl, hJ⟩⟩
theorem all_stopsA (L : Lc Try.prog encXA ok lt fv (fun _ => False) (fun _ _ => True) Rg) (n : Nat) (hn : 1 ≤ n) (Bn p B N : Nat) (hv : Value) (E : List ((Int × Int) × Int)) (X : Nat → Prop) (w : World) (hX : ∀ b, X b → b < w.heap.size) (hBl : Bn < w.heap.size) (hBn : w.cell? ⟨Bn, 0, none⟩ = some (.pointer (some ⟨p, 0, none⟩))) (hW : WlA w p B fv hv lt E N) (ho : ∀ e ∈ E, ok e.1) (hm : E.length ≤ 1000000) :
    SeqStopsK Fence.wide n Try.prog 43 #[.pointer (some ⟨Bn, 0, none⟩)] (fun x : Int × Int => #[.agg #[.int .i64 x.1, .int .i64 x.2]]) (Ky X) (fun ys => ys = E.map (·.1)) (fun pre => pre <+: E.map (·.1)) E.length w := fun l J Jx W hb hJ _ hY h0 =>
  all1A L n hn l Bn p B N _ hv E X J Jx hY W (fun s W1 W2 h g => hJ s W1 W2 none h g (fun r e => by cases e)) (fun b h => Nat.lt_of_lt_of_le (hX b h) hb.size) ((hb.cell (p := ⟨Bn, 0, none⟩) hBl).trans hBn) (hW.fr (Gr.no_of hb) id (fun _ _ => id)) ho rfl hm h0
end

/-! Of a nil list of ints. -/
set_option maxHeartbeats 400000 in
theorem allI (p : Option Addr) (w : World) :
    Calls Try.prog 27 #[.pointer p] w fun e w' => e = .returned (.func (.func 49) #[] #[.pointer (some ⟨w.heap.size, 0, none⟩)]) ∧ w' = w.alloc (.cells #[.pointer p] 34) := by
  go_enter Try.func27, Try.ntmps27
  go_wp2
  go_ret
  exact ⟨rfl, rfl⟩
set_option maxHeartbeats 400000 in
theorem all1nil (l Bn : Nat) (J : List Int → World → Prop) (W : World) (hBn : W.cell? ⟨Bn, 0, none⟩ = some (.pointer none)) (h0 : J [] W) :
    Calls Try.prog 49 #[.func (.yield l) #[] #[], .pointer (some ⟨Bn, 0, none⟩)] W fun e W' => (∃ v, e = .returned v) ∧ J [] W' := by
  go_enter Try.func49, Try.ntmps49
  go_wp2
  refine bodyPost_ret (results_none rfl _ _ _) rfl ?_
  exact ⟨⟨_, rfl⟩, h0⟩
theorem nil_stops (n Bn : Nat) (w : World) (X : Nat → Prop) (hBl : Bn < w.heap.size) (hc : w.cell? ⟨Bn, 0, none⟩ = some (.pointer none)) :
    SeqStopsK Fence.wide n Try.prog 49 #[.pointer (some ⟨Bn, 0, none⟩)] (fun x : Int => #[.int .i64 x]) (Ky X) (fun ys => ys = []) (fun pre => pre <+: []) 0 w := fun l J _ W hb _ _ _ h0 =>
  (callsIn_wide.2 (all1nil l Bn J W ((hb.cell (p := ⟨Bn, 0, none⟩) hBl).trans hc) h0)).mono fun _ _ ⟨h1, h2⟩ => ⟨h1, .inl ⟨[], rfl, h2⟩⟩
end Go.Proofs.Ytnepkpcoglfejaa
