/- The functions that order the items. -/
import Derived.Test.YtnepkpcoglfejaaWl
import Derived.Handy
import Derived.Shelf.Abstract
namespace Go.Proofs.Ytnepkpcoglfejaa
open Go.RowKit Go.Sort Go.Shelf

theorem Rg.refl (w : World) : Rg w w := ⟨0, #[], by rw [grow_empty]; rfl⟩
theorem Rg.trans {w w' w'' : World} (h : Rg w w') (k : Rg w' w'') : Rg w w'' := by
  obtain ⟨q, os, rfl⟩ := h
  obtain ⟨q', os', rfl⟩ := k
  refine ⟨q + q', os ++ os', ?_⟩
  rw [← grow_grow]
  simp [World.drewN, grow, Nat.add_assoc]
theorem Rg.alloc (w : World) (o : Obj) : Rg w (w.alloc o) := ⟨0, #[o], alloc_eq_grow w o⟩
theorem Rg.drew (w : World) : Rg w w.drew := ⟨1, #[], by rw [grow_empty]; rfl⟩
theorem Rg.fr {w w' : World} (X : Nat → Prop) (h : Rg w w') : Fr X w w' := by
  obtain ⟨q, os, rfl⟩ := h
  refine ⟨⟨rfl, rfl, rfl, by simp [grow, World.drewN], fun b hb => absurd hb (Nat.not_lt_zero b)⟩, fun b hb _ => ?_⟩
  simp [grow, World.drewN, Array.getElem?_append, hb]

/-- A function that only reads, whatever the world. -/
theorem Lc.pure {α : Type} {P : Program} {encX : α → Value} {ok : α → Prop} {lt : α → α → Bool} {F : Nat} {cb : Array Value} (O : Ord lt) (eg : ∀ args W, (callFunc F args).run P W = .ok (.enter F args) W)
    (h : ∀ a b W, ok a → ok b → Calls P F (#[encX a, encX b] ++ cb) W fun e w' => e = .returned (.bool (lt a b)) ∧ Rg W w') : Lc P encX ok lt (.func (.func F) #[] cb) (fun _ => False) (fun _ _ => True) Rg :=
  ⟨O, Rg.refl, Rg.trans, Rg.alloc, Rg.drew, Rg.fr _, fun _ _ => trivial, fun _ _ => trivial, fun _ h => h.elim, F, cb, rfl, eg, fun a b _ W ha hb _ => (h a b W ha hb).mono fun _ _ ⟨h1, h2⟩ => ⟨h1, trivial, h2⟩⟩

theorem Ord.key {α : Type} (f : α → Int) : Ord (fun a b => decide (f a < f b)) := by
  refine ⟨fun a => by simp, fun a b c h1 h2 => ?_, fun a b c h1 h2 => ?_⟩ <;> simp at * <;> omega
theorem Ord.none {α : Type} : Ord (fun _ _ : α => false) := ⟨fun _ => rfl, fun _ _ _ h _ => h, fun _ _ _ _ _ => rfl⟩

def ltA (a b : Int × Int) : Bool := decide (a.1 < b.1)
def ltI (a b : Int) : Bool := decide (a < b)

set_option maxHeartbeats 400000 in
theorem lessA : Lc Try.prog encXA (fun _ => True) ltA (.func (.func 11) #[] #[]) (fun _ => False) (fun _ _ => True) Rg := by
  refine Lc.pure (Ord.key fun a : Int × Int => a.1) (enters_of Try.func11 (by kernel_rfl) rfl) fun a b w _ _ => ?_
  obtain ⟨a1, a2⟩ := a
  obtain ⟨b1, b2⟩ := b
  change Calls Try.prog 11 #[.agg #[.int .i64 a1, .int .i64 a2], .agg #[.int .i64 b1, .int .i64 b2]] w _
  go_enter Try.func11, Try.ntmps11
  go_wp2
  go_ret
  exact ⟨rfl, (Rg.alloc _ _).trans (Rg.alloc _ _)⟩

set_option maxHeartbeats 400000 in
theorem lessI : Lc Try.prog encXI (fun _ => True) ltI (.func (.func 34) #[] #[]) (fun _ => False) (fun _ _ => True) Rg := by
  refine Lc.pure (Ord.key fun a => a) (enters_of Try.func34 (by kernel_rfl) rfl) fun a b w _ _ => ?_
  change Calls Try.prog 34 #[.int .i64 a, .int .i64 b] w _
  go_enter Try.func34, Try.ntmps34
  go_wp2
  go_ret
  exact ⟨rfl, Rg.refl _⟩

set_option maxHeartbeats 400000 in
theorem lessN : Lc Try.prog encXI (fun _ => True) (fun _ _ => false) (.func (.func 40) #[] #[]) (fun _ => False) (fun _ _ => True) Rg := by
  refine Lc.pure Ord.none (enters_of Try.func40 (by kernel_rfl) rfl) fun a b w _ _ => ?_
  change Calls Try.prog 40 #[.int .i64 a, .int .i64 b] w _
  go_enter Try.func40, Try.ntmps40
  go_wp2
  go_ret
  exact ⟨rfl, Rg.refl _⟩

/-- The cell q counts the calls: at most k so far. -/
def Jc (q k : Nat) (w : World) : Prop := ∃ v : Int, Bk w q 3 #[.int .i64 v] ∧ (k < 4611686018427387904 → 0 ≤ v ∧ v ≤ k)
set_option maxHeartbeats 400000 in
theorem lessC (q : Nat) : Lc Try.prog encXI (fun _ => True) ltI (.func (.func 16) #[] #[.pointer (some ⟨q, 0, none⟩)]) (fun b => b = q) (Jc q) (Fr fun b => b = q) := by
  refine ⟨Ord.key fun a => a, Fr.refl _, Fr.trans, Fr.alloc _, Fr.drew _, id, ?_, ?_, ?_, 16, _, rfl, enters_of Try.func16 (by kernel_rfl) rfl, ?_⟩
  · rintro k m w ⟨v, hb, hv⟩ hkm
    exact ⟨v, hb, fun h => by have := hv (by omega); omega⟩
  · rintro k w w' ⟨v, hb, hv⟩ h
    exact ⟨v, hb.keep (h q rfl), hv⟩
  · rintro k w b ⟨v, hb, hv⟩ rfl
    exact hb.lt
  · rintro a b k w _ _ ⟨v, hb, hv⟩
    have c0 : w.cell? ⟨q, 0, none⟩ = some (.int .i64 v) := (hb.cell 0).trans rfl
    have f0 : w.frozen? ⟨q, 0, none⟩ = false := hb.frozen 0
    change Calls Try.prog 16 #[.int .i64 a, .int .i64 b, .pointer (some ⟨q, 0, none⟩)] w _
    have HB := Lib.hid hb
    have HV := Lib.hid hv
    clear hb hv
    go_enter Try.func16, Try.ntmps16
    go_wp2
    go_ret
    refine ⟨rfl, ⟨_, Bk.put HB.out 0 _, fun h => ?_⟩, Fr.set (X := fun b => b = q) _ _ _ rfl⟩
    have h9 := HV.out (by omega)
    unfold wrap64
    omega
end Go.Proofs.Ytnepkpcoglfejaa
