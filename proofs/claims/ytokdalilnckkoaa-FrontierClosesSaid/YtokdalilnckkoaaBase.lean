/- Frontiers: the atomic operations on the top and on the number of pending items. -/
import Derived.Test.YtokdalilnckkoaaAtom
namespace Go.Proofs.Ytokdalilnckkoaa
open Go.RowKit

/-- A pointer to a block's head, or nil. -/
def pv (o : Option Nat) : Value := .pointer (o.map fun c => ⟨c, 0, none⟩)
theorem pv_none : pv none = .pointer none := rfl
theorem pv_some (c : Nat) : pv (some c) = .pointer (some ⟨c, 0, none⟩) := rfl

theorem same_pv {P : Program} {w : World} (x y : Option Nat) (hx : ∀ c, x = some c → ∃ t cs, Bk w c t cs) (hy : ∀ c, y = some c → ∃ t cs, Bk w c t cs) :
    (samePointer (x.map fun c => ⟨c, 0, none⟩) (y.map fun c => ⟨c, 0, none⟩)).run P w = .ok (decide (x = y)) w := by
  cases x with
  | none =>
    cases y with
    | none => rfl
    | some d => rfl
  | some c =>
    cases y with
    | none => rfl
    | some d =>
      by_cases h : c = d
      · subst h
        simp only [Option.map_some, samePointer, decide_true]
        exact run_sameAddr_same w _
      · obtain ⟨t, cs, h1⟩ := hx c rfl
        obtain ⟨t', cs', h2⟩ := hy d rfl
        have : decide (some c = some d) = false := by simp [h]
        rw [this]
        simp only [Option.map_some, samePointer]
        exact run_sameAddr_other w (fun e => h (by injection e)) h1 h2

theorem add_i64 {P : Program} (w : World) (x y : Int) (h1 : -9223372036854775808 ≤ x + y) (h2 : x + y ≤ 9223372036854775807) : (Op.intArith .add .i64 x y).run P w = .ok (.int .i64 (x + y)) w := by
  have e : IntKind.i64.wrap (x + y) = x + y := by rw [IntKind.wrap_i64]; omega
  simp [Op.intArith, e]

set_option maxHeartbeats 400000 in
theorem add64_any (g : Nat) (a : Value) (t : TypeId) (pd d : Int) (w : World) (h : Bk w g t #[a, .int .i64 pd]) (h1 : -1000000 ≤ pd) (h2 : pd ≤ 1000000) (h3 : -1 ≤ d) (h4 : d ≤ 1) :
    Calls Try.prog 47 #[.pointer (some ⟨g, 1, none⟩), .int .i64 d] w fun e w' => e = .returned (.int .i64 (pd + d)) ∧ w.setCell ⟨g, 1, none⟩ (.int .i64 (pd + d)) = w' := by
  have hc : w.cell? ⟨g, 1, none⟩ = some (.int .i64 pd) := by rw [h.cell]; rfl
  have hadd := run_call_add (P := Try.prog) Try.func56 (by kernel_rfl) (by kernel_rfl) (by kernel_rfl) .i64 (by kernel_rfl) (y := d) hc (h.frozen 1) (add_i64 w pd d (by omega) (by omega))
  go_enter Try.func47, Try.ntmps47
  go_wp2
  go_ret
  exact ⟨rfl, rfl⟩

set_option maxHeartbeats 400000 in
theorem load64_any (g : Nat) (a : Value) (t : TypeId) (pd : Int) (w : World) (h : Bk w g t #[a, .int .i64 pd]) :
    Calls Try.prog 37 #[.pointer (some ⟨g, 1, none⟩)] w fun e w' => e = .returned (.int .i64 pd) ∧ w = w' := by
  have hc : w.cell? ⟨g, 1, none⟩ = some (.int .i64 pd) := by rw [h.cell]; rfl
  have hld := run_call_load (P := Try.prog) Try.func52 (by kernel_rfl) (by kernel_rfl) (by kernel_rfl) .i64 (by kernel_rfl) hc
  go_enter Try.func37, Try.ntmps37
  go_wp2
  go_ret
  exact ⟨rfl, rfl⟩


/-- Block g is a frontier with the top and the number of pending items. -/
def FrI (w : World) (g : Nat) (top : Option Nat) (pd : Int) : Prop := Bk w g 79 #[pv top, .int .i64 pd]
def ClI (w : World) (c : Nat) (x : Value) (below : Option Nat) : Prop := Bk w c 81 #[x, pv below]
theorem liesI : liesAt Try.prog Try.prog.depth 81 (2 / Try.prog.cellsOf 81) 0 81 1 = true := by kernel_rfl
theorem cellszI : (Try.prog.info? 81).map (fun i => decide (i.size = 0)) = some false := by kernel_rfl
theorem backI {w : World} {c : Nat} {x : Value} {b : Option Nat} (h : ClI w c x b) : (convert 72 68 (.pointer (some ⟨c, 0, none⟩))).run Try.prog w = .ok (.pointer (some ⟨c, 0, none⟩)) w := by
  have hsh : w.shape? c = some (81, 2) := by
    unfold ClI Bk at h
    simp [World.shape?, h]
  have hv : viewAt c = viewAt c := rfl
  obtain ⟨i, hi, hz0⟩ := Option.map_eq_some_iff.1 cellszI
  have hz : i.size ≠ 0 := by simpa using hz0
  simp [convert, Conv.unsafePointer, Conv.seenAt, viewAt, run_underlying Try.underlying72, run_underlying Try.underlying68, sizeOf, typeInfo, hi, hz, hsh, variablesAt, liesI, Result.andThen]

/-- The pointer o is nil, or leads to a cell. -/
def PtI (w : World) (o : Option Nat) : Prop := ∀ c, o = some c → ∃ x b, ClI w c x b
theorem PtI.bk {w : World} {o : Option Nat} (h : PtI w o) : ∀ c, o = some c → ∃ t cs, Bk w c t cs := fun c e => by
  obtain ⟨x, b, hh⟩ := h c e
  exact ⟨_, _, hh⟩

set_option maxHeartbeats 400000 in
theorem loadI (g : Nat) (top : Option Nat) (pd : Int) (w : World) (h : FrI w g top pd) (ht : PtI w top) :
    Calls Try.prog 36 #[.pointer (some ⟨g, 0, none⟩)] w fun e w' => e = .returned (pv top) ∧ w = w' := by
  have h : Bk w g 79 #[pv top, .int .i64 pd] := h
  have hc : w.cell? ⟨g, 0, none⟩ = some (pv top) := by rw [h.cell]; rfl
  unfold pv at hc ⊢
  have hld := run_call_loadp (P := Try.prog) Try.func51 (by kernel_rfl) (by kernel_rfl) (by kernel_rfl) (by kernel_rfl) hc
  cases top with
  | none =>
    simp only [Option.map_none] at hc hld ⊢
    have hcv : (convert 72 68 (.pointer none)).run Try.prog w = .ok (.pointer none) w := by simp [convert, Conv.unsafePointer, run_underlying Try.underlying72, run_underlying Try.underlying68, Result.andThen]
    clear h ht
    go_enter Try.func36, Try.ntmps36
    go_wp2
    go_ret
    exact ⟨rfl, rfl⟩
  | some c =>
    simp only [Option.map_some] at hc hld ⊢
    obtain ⟨x, b, hcl⟩ := ht c rfl
    have hcv := backI hcl
    clear h ht hcl
    go_enter Try.func36, Try.ntmps36
    go_wp2
    go_ret
    exact ⟨rfl, rfl⟩

theorem tounI (w : World) (o : Option Nat) (ho : PtI w o) : (convert 68 72 (pv o)).run Try.prog w = .ok (pv o) w := by
  cases o with
  | none => simp [pv, convert, Conv.unsafePointer, run_underlying Try.underlying72, run_underlying Try.underlying68, Result.andThen]
  | some c =>
    obtain ⟨x, b, hcl⟩ := ho c rfl
    have hc : w.cell? ⟨c, 0, none⟩ = some x := by
      have h : Bk w c 81 #[x, pv b] := hcl
      rw [h.cell]; rfl
    exact run_convert_to_unsafe Try.underlying68 Try.underlying72 cellszI hc

set_option maxHeartbeats 400000 in
theorem casI (g : Nat) (top o n : Option Nat) (pd : Int) (w : World) (h : FrI w g top pd) (ht : PtI w top) (ho : PtI w o) (hn : PtI w n) :
    Calls Try.prog 58 #[.pointer (some ⟨g, 0, none⟩), pv o, pv n] w fun e w' => e = .returned (.bool (decide (top = o))) ∧ (if decide (top = o) then w.setCell ⟨g, 0, none⟩ (pv n) else w) = w' := by
  have h : Bk w g 79 #[pv top, .int .i64 pd] := h
  have hc : w.cell? ⟨g, 0, none⟩ = some (pv top) := by rw [h.cell]; rfl
  have hcas := run_call_casp (P := Try.prog) Try.func61 (by kernel_rfl) (by kernel_rfl) (by kernel_rfl) (by kernel_rfl) (y := n.map fun c => ⟨c, 0, none⟩) hc (h.frozen 0) (same_pv top o ht.bk ho.bk)
  have e1 := tounI w o ho
  have e2 := tounI w n hn
  unfold pv at e1 e2 ⊢
  clear h hc ht ho hn
  generalize (o.map fun c => (⟨c, 0, none⟩ : Addr)) = oo at *
  generalize (n.map fun c => (⟨c, 0, none⟩ : Addr)) = nn at *
  generalize decide (top = o) = bb at *
  generalize (if bb = true then w.setCell ⟨g, 0, none⟩ (.pointer nn) else w) = w1 at *
  go_enter Try.func58, Try.ntmps58
  go_wp2
  go_ret
  exact ⟨rfl, rfl⟩

/-- Block g is a frontier with the top and the number of pending items. -/
def FrS (w : World) (g : Nat) (top : Option Nat) (pd : Int) : Prop := Bk w g 94 #[pv top, .int .i64 pd]
def ClS (w : World) (c : Nat) (x : Value) (below : Option Nat) : Prop := Bk w c 96 #[x, pv below]
theorem liesS : liesAt Try.prog Try.prog.depth 96 (2 / Try.prog.cellsOf 96) 0 96 1 = true := by kernel_rfl
theorem cellszS : (Try.prog.info? 96).map (fun i => decide (i.size = 0)) = some false := by kernel_rfl
theorem backS {w : World} {c : Nat} {x : Value} {b : Option Nat} (h : ClS w c x b) : (convert 72 89 (.pointer (some ⟨c, 0, none⟩))).run Try.prog w = .ok (.pointer (some ⟨c, 0, none⟩)) w := by
  have hsh : w.shape? c = some (96, 2) := by
    unfold ClS Bk at h
    simp [World.shape?, h]
  have hv : viewAt c = viewAt c := rfl
  obtain ⟨i, hi, hz0⟩ := Option.map_eq_some_iff.1 cellszS
  have hz : i.size ≠ 0 := by simpa using hz0
  simp [convert, Conv.unsafePointer, Conv.seenAt, viewAt, run_underlying Try.underlying72, run_underlying Try.underlying89, sizeOf, typeInfo, hi, hz, hsh, variablesAt, liesS, Result.andThen]

/-- The pointer o is nil, or leads to a cell. -/
def PtS (w : World) (o : Option Nat) : Prop := ∀ c, o = some c → ∃ x b, ClS w c x b
theorem PtS.bk {w : World} {o : Option Nat} (h : PtS w o) : ∀ c, o = some c → ∃ t cs, Bk w c t cs := fun c e => by
  obtain ⟨x, b, hh⟩ := h c e
  exact ⟨_, _, hh⟩

set_option maxHeartbeats 400000 in
theorem loadS (g : Nat) (top : Option Nat) (pd : Int) (w : World) (h : FrS w g top pd) (ht : PtS w top) :
    Calls Try.prog 45 #[.pointer (some ⟨g, 0, none⟩)] w fun e w' => e = .returned (pv top) ∧ w = w' := by
  have h : Bk w g 94 #[pv top, .int .i64 pd] := h
  have hc : w.cell? ⟨g, 0, none⟩ = some (pv top) := by rw [h.cell]; rfl
  unfold pv at hc ⊢
  have hld := run_call_loadp (P := Try.prog) Try.func51 (by kernel_rfl) (by kernel_rfl) (by kernel_rfl) (by kernel_rfl) hc
  cases top with
  | none =>
    simp only [Option.map_none] at hc hld ⊢
    have hcv : (convert 72 89 (.pointer none)).run Try.prog w = .ok (.pointer none) w := by simp [convert, Conv.unsafePointer, run_underlying Try.underlying72, run_underlying Try.underlying89, Result.andThen]
    clear h ht
    go_enter Try.func45, Try.ntmps45
    go_wp2
    go_ret
    exact ⟨rfl, rfl⟩
  | some c =>
    simp only [Option.map_some] at hc hld ⊢
    obtain ⟨x, b, hcl⟩ := ht c rfl
    have hcv := backS hcl
    clear h ht hcl
    go_enter Try.func45, Try.ntmps45
    go_wp2
    go_ret
    exact ⟨rfl, rfl⟩

theorem tounS (w : World) (o : Option Nat) (ho : PtS w o) : (convert 89 72 (pv o)).run Try.prog w = .ok (pv o) w := by
  cases o with
  | none => simp [pv, convert, Conv.unsafePointer, run_underlying Try.underlying72, run_underlying Try.underlying89, Result.andThen]
  | some c =>
    obtain ⟨x, b, hcl⟩ := ho c rfl
    have hc : w.cell? ⟨c, 0, none⟩ = some x := by
      have h : Bk w c 96 #[x, pv b] := hcl
      rw [h.cell]; rfl
    exact run_convert_to_unsafe Try.underlying89 Try.underlying72 cellszS hc

set_option maxHeartbeats 400000 in
theorem casS (g : Nat) (top o n : Option Nat) (pd : Int) (w : World) (h : FrS w g top pd) (ht : PtS w top) (ho : PtS w o) (hn : PtS w n) :
    Calls Try.prog 60 #[.pointer (some ⟨g, 0, none⟩), pv o, pv n] w fun e w' => e = .returned (.bool (decide (top = o))) ∧ (if decide (top = o) then w.setCell ⟨g, 0, none⟩ (pv n) else w) = w' := by
  have h : Bk w g 94 #[pv top, .int .i64 pd] := h
  have hc : w.cell? ⟨g, 0, none⟩ = some (pv top) := by rw [h.cell]; rfl
  have hcas := run_call_casp (P := Try.prog) Try.func61 (by kernel_rfl) (by kernel_rfl) (by kernel_rfl) (by kernel_rfl) (y := n.map fun c => ⟨c, 0, none⟩) hc (h.frozen 0) (same_pv top o ht.bk ho.bk)
  have e1 := tounS w o ho
  have e2 := tounS w n hn
  unfold pv at e1 e2 ⊢
  clear h hc ht ho hn
  generalize (o.map fun c => (⟨c, 0, none⟩ : Addr)) = oo at *
  generalize (n.map fun c => (⟨c, 0, none⟩ : Addr)) = nn at *
  generalize decide (top = o) = bb at *
  generalize (if bb = true then w.setCell ⟨g, 0, none⟩ (.pointer nn) else w) = w1 at *
  go_enter Try.func60, Try.ntmps60
  go_wp2
  go_ret
  exact ⟨rfl, rfl⟩

end Go.Proofs.Ytokdalilnckkoaa
