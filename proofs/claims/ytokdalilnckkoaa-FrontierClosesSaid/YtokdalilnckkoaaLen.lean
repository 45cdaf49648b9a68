/- Len: a range over All. -/
import Derived.Test.YtokdalilnckkoaaAll
namespace Go.Proofs.Ytokdalilnckkoaa
open Go.RowKit Go.Shelf

attribute [local go_sem] Oper.semAt_some

/-- A function with a range over a function, walked at the wide fence. -/
theorem calls_of_wp_marks {P : Program} {f : FuncId} {fn : Func} {c : Code} {args : Array Value} {w : World} {R : Ending → World → Prop}
    (hf : P.funcs[f]? = some fn) (hb : fn.body = some c)
    (h : c.wp P (bodyPostM Fence.wide 9 P fn R) { tmps := args ++ Array.replicate (fn.ntmps - args.size) undef, defers := [] } w) : Calls P f args w R :=
  callsIn_wide.1 (callsIn_of_wp_marks (F := Fence.wide) (n := 9) hf hb trivial (wpIn_wide.2 h) rfl)

theorem cell_of_box_l {W : World} {B : Nat} {v : Value} {t : TypeId} (h : W.heap[B]? = some (.cells #[v] t (0, 0))) : W.cell? ⟨B, 0, none⟩ = some v ∧ W.frozen? ⟨B, 0, none⟩ = false := by
  constructor <;> simp [World.cell?, World.frozen?, h]
theorem cell_new_l (W : World) (v : Value) (t : TypeId) : (W.alloc (.cells #[v] t)).cell? ⟨W.heap.size, 0, none⟩ = some v ∧ (W.alloc (.cells #[v] t)).frozen? ⟨W.heap.size, 0, none⟩ = false :=
  cell_of_box_l (World.alloc_heap_new W _)
theorem cell_alloc_l {W : World} {a : Addr} {v : Value} (o : Obj) (h : W.cell? a = some v) : (W.alloc o).cell? a = some v := cell_kept h (World.grownBy_alloc W o none) (fun r e => by cases e)
theorem frozen_alloc_l {W : World} {a : Addr} {v : Value} (o : Obj) (h : W.cell? a = some v) (hf : W.frozen? a = false) : (W.alloc o).frozen? a = false := (frozen_kept h (World.grownBy_alloc W o none) (fun r e => by cases e)).trans hf


set_option maxHeartbeats 400000 in
theorem all1nilI (l Bn : Nat) (J : List Int → World → Prop)
    (W : World) (hBn : W.cell? ⟨Bn, 0, none⟩ = some (.pointer none)) (h0 : J [] W) :
    Calls Try.prog 35 #[.func (.yield l) #[] #[], .pointer (some ⟨Bn, 0, none⟩)] W fun e W' => (∃ v, e = .returned v) ∧ J [] W' := by
  go_enter Try.func35, Try.ntmps35
  go_wp2
  refine bodyPost_ret (results_none rfl _ _ _) rfl ?_
  exact ⟨⟨_, rfl⟩, h0⟩

/-- All of the frontier at p gives the items xs, as long as what lies in w lies on. -/
def IterI (w : World) (p : Option Addr) (xs : List Int) : Prop :=
  ∀ (n Bn : Nat) (W : World), 1 ≤ n → Below w.heap.size w W → Bn < W.heap.size → W.cell? ⟨Bn, 0, none⟩ = some (.pointer p) →
    SeqStopsK Fence.wide n Try.prog 35 #[.pointer (some ⟨Bn, 0, none⟩)] (fun x : Int => #[.int .i64 x]) (Below w.heap.size) (fun ys => ys = xs) (fun pre => pre <+: xs) xs.length W

theorem iternilI (w : World) : IterI w none [] := by
  intro n Bn W hn hW hBn hc l J Jx W1 hW1 _ _ hY h0
  refine (callsIn_wide.2 (all1nilI l Bn J W1 ((hW1.cell (p := ⟨Bn, 0, none⟩) hBn).trans hc) h0)).mono ?_
  rintro e w' ⟨h1, h2⟩
  exact ⟨h1, .inl ⟨[], rfl, h2⟩⟩

theorem iterI {w : World} {g : Nat} {top : Option Nat} {pd : Int} {xs : List Int} (hF : FrI w g top pd) (hL : StI w.heap.size w top xs) : IterI w (some ⟨g, 0, none⟩) xs := by
  intro n Bn W hn hW hBn hc
  have hg : g < w.heap.size := Bk.lt hF
  exact all_stopsI n hn Bn w.heap.size g top pd xs W hBn hW.size hc (by have := hW.size; omega) ((hW.block g hg).trans hF) (hL.below hW)

set_option maxRecDepth 100000 in
set_option maxHeartbeats 1000000 in
theorem lenI (p : Option Addr) (xs : List Int) (w : World) (hS : IterI w p xs) (hlen : xs.length ≤ 1000000) :
    Calls Try.prog 17 #[.pointer p] w fun e w' => e = .returned (.int .i64 xs.length) ∧ Below w.heap.size w w' := by
  have hS := Lib.hid hS
  refine calls_of_wp_marks Try.func17 rfl ?_
  simp only [Try.ntmps17, List.size_toArray, List.length_cons, List.length_nil, Nat.reduceAdd, Nat.reduceSub, Array.replicate_succ, Array.replicate_zero, List.push_toArray, List.append_toArray, List.nil_append, List.cons_append]
  go_wp2_with fail
  refine (allI p _).mono ?_
  rintro e w' ⟨rfl, rfl⟩
  go_wp2_with fail
  have hs := cell_new_l w (.int .i64 0) 3
  have hb := cell_new_l (w.alloc (.cells #[.int .i64 0] 3)) (.pointer p) 24
  rw [World.size_alloc] at hb
  have hB0 : Below w.heap.size w ((w.alloc (.cells #[.int .i64 0] 3)).alloc (.cells #[.pointer p] 24)) := ((Below.refl _ w).alloc (Nat.le_refl _) _).alloc (by simp) _
  refine wpIn_wide.1 (wpIn_rangeFunc_ownF (F := Fence.wide) (n := 9) rfl (by decide) (gf := 35) (lb := #[.pointer (some ⟨w.heap.size + 1, 0, none⟩)]) rfl trivial (enters_of Try.func35 (by kernel_rfl) rfl)
    (hS.out 8 (w.heap.size + 1) _ (by decide) hB0 (by simp) hb.1) belowK_t (belowK_b (by simp; omega)) (Below.refl _ _) (fun _ => rfl)
    (fun pre W => (W.cell? ⟨w.heap.size, 0, none⟩ = some (.int .i64 pre.length) ∧ W.frozen? ⟨w.heap.size, 0, none⟩ = false) ∧ Below w.heap.size w W)
    (fun _ _ _ => False)
    (OwnFrom.and (Own.from (fun s A B row hs hg hr => ⟨cell_kept hs.1 hg hr, (frozen_kept hs.1 hg hr).trans hs.2⟩) _) (ownFrom_below (Nat.le_refl _) (by simp; omega)))
    (fun _ _ _ _ _ hs _ _ => hs)
    ⟨⟨cell_alloc_l _ hs.1, frozen_alloc_l _ hs.1 hs.2⟩, hB0⟩
    (fun x => { tmps := #[.pointer p, undef, .int .i64 0, .pointer (some ⟨w.heap.size, 0, none⟩), .pointer p, .func (.func 35) #[] #[.pointer (some ⟨w.heap.size + 1, 0, none⟩)], .int .i64 x, undef, undef, undef], defers := [] }) ?assign ?body ?done ?stop)
  case assign =>
    intro l x W K hK
    gi_wp2
    simpa using hK
  case body =>
    rintro l pre x W ⟨⟨hc, hf⟩, hB⟩ hlt
    have hw : IntKind.i64.wrap ((pre.length : Int) + 1) = (pre.length : Int) + 1 := by rw [IntKind.wrap_i64]; omega
    gi_wp2
    exact ⟨KeepsOthers.setCell _ _ _, (Below.refl w.heap.size W).setCell (p := ⟨w.heap.size, 0, none⟩) (Nat.le_refl _) _, ⟨by rw [World.cell?_setCell_same' _ _ _ (by rw [hc]; rfl)]; simp, by rw [World.frozen?_setCell]; exact hf⟩, hB.setCell (p := ⟨w.heap.size, 0, none⟩) (Nat.le_refl _) _⟩
  case done =>
    rintro D ys W hD rfl ⟨⟨hc, _⟩, hB⟩ hK
    go_wp2
    refine ⟨by simp, .inl ⟨_, _, rfl, run_takeDeferred hK, ?_⟩⟩
    exact ⟨_, results_tmp rfl _ _ _, rfl, hB.trans (belowK_b (w := w) (Nat.le_refl _) W D _ _ (by simp at hD; omega) hK rfl rfl)⟩
  case stop =>
    rintro D c pre W _ _ h _
    exact h.elim

set_option maxHeartbeats 400000 in
theorem all1nilS (l Bn : Nat) (J : List Bs → World → Prop)
    (W : World) (hBn : W.cell? ⟨Bn, 0, none⟩ = some (.pointer none)) (h0 : J [] W) :
    Calls Try.prog 44 #[.func (.yield l) #[] #[], .pointer (some ⟨Bn, 0, none⟩)] W fun e W' => (∃ v, e = .returned v) ∧ J [] W' := by
  go_enter Try.func44, Try.ntmps44
  go_wp2
  refine bodyPost_ret (results_none rfl _ _ _) rfl ?_
  exact ⟨⟨_, rfl⟩, h0⟩

/-- All of the frontier at p gives the items xs, as long as what lies in w lies on. -/
def IterS (w : World) (p : Option Addr) (xs : List Bs) : Prop :=
  ∀ (n Bn : Nat) (W : World), 1 ≤ n → Below w.heap.size w W → Bn < W.heap.size → W.cell? ⟨Bn, 0, none⟩ = some (.pointer p) →
    SeqStopsK Fence.wide n Try.prog 44 #[.pointer (some ⟨Bn, 0, none⟩)] (fun x : Bs => #[.string x.1]) (Below w.heap.size) (fun ys => ys = xs) (fun pre => pre <+: xs) xs.length W

theorem iternilS (w : World) : IterS w none [] := by
  intro n Bn W hn hW hBn hc l J Jx W1 hW1 _ _ hY h0
  refine (callsIn_wide.2 (all1nilS l Bn J W1 ((hW1.cell (p := ⟨Bn, 0, none⟩) hBn).trans hc) h0)).mono ?_
  rintro e w' ⟨h1, h2⟩
  exact ⟨h1, .inl ⟨[], rfl, h2⟩⟩

theorem iterS {w : World} {g : Nat} {top : Option Nat} {pd : Int} {xs : List Bs} (hF : FrS w g top pd) (hL : StS w.heap.size w top xs) : IterS w (some ⟨g, 0, none⟩) xs := by
  intro n Bn W hn hW hBn hc
  have hg : g < w.heap.size := Bk.lt hF
  exact all_stopsS n hn Bn w.heap.size g top pd xs W hBn hW.size hc (by have := hW.size; omega) ((hW.block g hg).trans hF) (hL.below hW)

set_option maxRecDepth 100000 in
set_option maxHeartbeats 1000000 in
theorem lenS (p : Option Addr) (xs : List Bs) (w : World) (hS : IterS w p xs) (hlen : xs.length ≤ 1000000) :
    Calls Try.prog 27 #[.pointer p] w fun e w' => e = .returned (.int .i64 xs.length) ∧ Below w.heap.size w w' := by
  have hS := Lib.hid hS
  refine calls_of_wp_marks Try.func27 rfl ?_
  simp only [Try.ntmps27, List.size_toArray, List.length_cons, List.length_nil, Nat.reduceAdd, Nat.reduceSub, Array.replicate_succ, Array.replicate_zero, List.push_toArray, List.append_toArray, List.nil_append, List.cons_append]
  go_wp2_with fail
  refine (allS p _).mono ?_
  rintro e w' ⟨rfl, rfl⟩
  go_wp2_with fail
  have hs := cell_new_l w (.int .i64 0) 3
  have hb := cell_new_l (w.alloc (.cells #[.int .i64 0] 3)) (.pointer p) 58
  rw [World.size_alloc] at hb
  have hB0 : Below w.heap.size w ((w.alloc (.cells #[.int .i64 0] 3)).alloc (.cells #[.pointer p] 58)) := ((Below.refl _ w).alloc (Nat.le_refl _) _).alloc (by simp) _
  refine wpIn_wide.1 (wpIn_rangeFunc_ownF (F := Fence.wide) (n := 9) rfl (by decide) (gf := 44) (lb := #[.pointer (some ⟨w.heap.size + 1, 0, none⟩)]) rfl trivial (enters_of Try.func44 (by kernel_rfl) rfl)
    (hS.out 8 (w.heap.size + 1) _ (by decide) hB0 (by simp) hb.1) belowK_t (belowK_b (by simp; omega)) (Below.refl _ _) (fun _ => rfl)
    (fun pre W => (W.cell? ⟨w.heap.size, 0, none⟩ = some (.int .i64 pre.length) ∧ W.frozen? ⟨w.heap.size, 0, none⟩ = false) ∧ Below w.heap.size w W)
    (fun _ _ _ => False)
    (OwnFrom.and (Own.from (fun s A B row hs hg hr => ⟨cell_kept hs.1 hg hr, (frozen_kept hs.1 hg hr).trans hs.2⟩) _) (ownFrom_below (Nat.le_refl _) (by simp; omega)))
    (fun _ _ _ _ _ hs _ _ => hs)
    ⟨⟨cell_alloc_l _ hs.1, frozen_alloc_l _ hs.1 hs.2⟩, hB0⟩
    (fun x => { tmps := #[.pointer p, undef, .int .i64 0, .pointer (some ⟨w.heap.size, 0, none⟩), .pointer p, .func (.func 44) #[] #[.pointer (some ⟨w.heap.size + 1, 0, none⟩)], .string x.1, undef, undef, undef], defers := [] }) ?assign ?body ?done ?stop)
  case assign =>
    intro l x W K hK
    gi_wp2
    simpa using hK
  case body =>
    rintro l pre x W ⟨⟨hc, hf⟩, hB⟩ hlt
    have hw : IntKind.i64.wrap ((pre.length : Int) + 1) = (pre.length : Int) + 1 := by rw [IntKind.wrap_i64]; omega
    gi_wp2
    exact ⟨KeepsOthers.setCell _ _ _, (Below.refl w.heap.size W).setCell (p := ⟨w.heap.size, 0, none⟩) (Nat.le_refl _) _, ⟨by rw [World.cell?_setCell_same' _ _ _ (by rw [hc]; rfl)]; simp, by rw [World.frozen?_setCell]; exact hf⟩, hB.setCell (p := ⟨w.heap.size, 0, none⟩) (Nat.le_refl _) _⟩
  case done =>
    rintro D ys W hD rfl ⟨⟨hc, _⟩, hB⟩ hK
    go_wp2
    refine ⟨by simp, .inl ⟨_, _, rfl, run_takeDeferred hK, ?_⟩⟩
    exact ⟨_, results_tmp rfl _ _ _, rfl, hB.trans (belowK_b (w := w) (Nat.le_refl _) W D _ _ (by simp at hD; omega) hK rfl rfl)⟩
  case stop =>
    rintro D c pre W _ _ h _
    exact h.elim

end Go.Proofs.Ytokdalilnckkoaa
