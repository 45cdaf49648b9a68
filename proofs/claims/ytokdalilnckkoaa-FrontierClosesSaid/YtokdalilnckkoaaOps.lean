/- The steps of operations. -/
import Derived.Test.YtokdalilnckkoaaBase
import Derived.Deep.RegionWith
import Derived.Deep.DeepCutAuto
namespace Go.Proofs.Ytokdalilnckkoaa
open Go.RowKit

/-- Only the blocks bs have changed. -/
structure Ch (w w' : World) (bs : List Nat) : Prop where
  os : w'.os = w.os
  tape : w'.tape = w.tape
  output : w'.output = w.output
  size : w'.heap.size = w.heap.size
  block : ∀ b, b ∉ bs → w'.heap[b]? = w.heap[b]?
theorem Ch.refl (w : World) (bs : List Nat) : Ch w w bs := ⟨rfl, rfl, rfl, rfl, fun _ _ => rfl⟩
theorem Ch.drew {w w' : World} {bs : List Nat} (h : Ch w w' bs) : Ch w w'.drew bs := ⟨h.os, h.tape, h.output, h.size, h.block⟩
theorem Ch.drewN {w w' : World} {bs : List Nat} (h : Ch w w' bs) (n : Nat) : Ch w (w'.drewN n) bs := ⟨h.os, h.tape, h.output, h.size, h.block⟩
theorem Ch.set {w w' : World} {bs : List Nat} (h : Ch w w' bs) {p : Addr} (hp : p.block ∈ bs) (u : Value) : Ch w (w'.setCell p u) bs :=
  ⟨h.os, h.tape, h.output, by simpa [World.setCell] using h.size, fun b hb => (Below.heap_setCell _ _ _ _ (fun e => hb (by rw [e]; exact hp))).trans (h.block b hb)⟩
theorem Ch.trans {w w' w'' : World} {bs cs : List Nat} (h : Ch w w' bs) (k : Ch w' w'' cs) : Ch w w'' (bs ++ cs) :=
  ⟨k.os.trans h.os, k.tape.trans h.tape, k.output.trans h.output, k.size.trans h.size, fun b hb => by
    rw [List.mem_append, not_or] at hb
    exact (k.block b hb.2).trans (h.block b hb.1)⟩
theorem Ch.mono {w w' : World} {bs cs : List Nat} (h : Ch w w' bs) (hs : ∀ b ∈ bs, b ∈ cs) : Ch w w' cs := ⟨h.os, h.tape, h.output, h.size, fun b hb => h.block b (fun e => hb (hs b e))⟩
theorem Ch.below {w w' : World} {bs : List Nat} {B : Nat} (h : Ch w w' bs) (hs : ∀ b ∈ bs, B ≤ b) : Below B w w' := ⟨h.os, h.tape, h.output, by rw [h.size]; exact Nat.le_refl _, fun b hb => h.block b (fun e => by have := hs b e; omega)⟩

/-- The step with the function K of the operation in block o. -/
def nxt (K o : Nat) : Value := .func (Fn.func K) #[.pointer (some ⟨o, 0, none⟩)] #[]


def ObI (w : World) (o g K : Nat) (at_ : Option Nat) (fin : Bool) (res : Int) : Prop := Bk w o 83 #[.pointer (some ⟨g, 0, none⟩), nxt K o, pv at_, .bool fin, .int .i64 res]

section
variable {w : World} {o g K : Nat} {at_ top : Option Nat} {fin : Bool} {res pd : Int}
theorem ObI.c0 (h : ObI w o g K at_ fin res) : w.cell? ⟨o, 0, none⟩ = some (.pointer (some ⟨g, 0, none⟩)) := (Bk.cell h 0).trans rfl
theorem ObI.c1 (h : ObI w o g K at_ fin res) : w.cell? ⟨o, 1, none⟩ = some (nxt K o) := (Bk.cell h 1).trans rfl
theorem ObI.c2 (h : ObI w o g K at_ fin res) : w.cell? ⟨o, 2, none⟩ = some (pv at_) := (Bk.cell h 2).trans rfl
theorem ObI.c3 (h : ObI w o g K at_ fin res) : w.cell? ⟨o, 3, none⟩ = some (.bool fin) := (Bk.cell h 3).trans rfl
theorem ObI.c4 (h : ObI w o g K at_ fin res) : w.cell? ⟨o, 4, none⟩ = some (.int .i64 res) := (Bk.cell h 4).trans rfl
end

structure PoI (w : World) (o g : Nat) (bs : List Nat) (b : Bool) (K : Nat) (at_ : Option Nat) (fin : Bool) (res : Int) (top : Option Nat) (pd : Int) (e : Ending) (w' : World) : Prop where
  ret : e = .returned (.bool b)
  op : ObI w' o g K at_ fin res
  fr : FrI w' g top pd
  ch : Ch w w' bs

set_option maxHeartbeats 400000 in
theorem beginI (o g K : Nat) (at_ top : Option Nat) (res pd : Int) (w : World) (h : ObI w o g K at_ false res) (hf : FrI w g top pd) (h1 : -1000000 ≤ pd) (h2 : pd < 1000000) :
    Calls Try.prog 33 #[.pointer (some ⟨o, 0, none⟩)] w (PoI w o g [o, g] false 48 at_ false res top (pd + 1)) := by
  have c0 := h.c0
  have c1 := h.c1
  have f1 : w.frozen? ⟨o, 1, none⟩ = false := Bk.frozen h 1
  have hog : ¬ o = g := Bk.ne h hf (by decide)
  have H := Lib.hid (add64_any g _ _ pd 1 w hf h1 (by omega) (by omega) (by omega))
  have HO : Hid (ObI w o g K at_ false res) := h
  have HF : Hid (FrI w g top pd) := hf
  clear h hf
  unfold nxt at c1
  go_enter Try.func33, Try.ntmps33
  go_wp2_with fail
  refine H.out.mono ?_
  rintro e w' ⟨rfl, rfl⟩
  go_wp2
  go_ret
  have q1 : ObI (w.setCell ⟨g, 1, none⟩ (.int .i64 (pd + 1))) o g K at_ false res := Bk.other HO.out hog _
  have q2 : FrI (w.setCell ⟨g, 1, none⟩ (.int .i64 (pd + 1))) g top (pd + 1) := Bk.put HF.out 1 _
  exact ⟨rfl, Bk.put q1 1 _, Bk.other q2 (fun e => hog e.symm) _, ((Ch.refl w _).set (by simp) _).set (by simp) _⟩

set_option maxHeartbeats 800000 in
theorem readI (o g K c : Nat) (top below : Option Nat) (x : Value) (res pd : Int) (w : World) (h : ObI w o g K (some c) false res) (hf : FrI w g top pd) (hc : ClI w c x below) (ht : PtI w top) :
    Calls Try.prog 48 #[.pointer (some ⟨o, 0, none⟩)] w fun e w' => PoI w o g [o, c] false 57 (some c) false res top pd e w' ∧ ClI w' c x top := by
  have c0 := h.c0
  have c1 := h.c1
  have c2 := h.c2
  have f1 : w.frozen? ⟨o, 1, none⟩ = false := Bk.frozen h 1
  have d1 : w.cell? ⟨c, 1, none⟩ = some (pv below) := (Bk.cell hc 1).trans rfl
  have g1 : w.frozen? ⟨c, 1, none⟩ = false := Bk.frozen hc 1
  have hoc : ¬ o = c := Bk.ne h hc (by decide)
  have hgc : ¬ g = c := Bk.ne hf hc (by decide)
  have hgo : ¬ g = o := Bk.ne hf h (by decide)
  have HL : Hid (∀ k, Calls Try.prog 36 #[.pointer (some ⟨g, 0, none⟩)] (w.drewN k) fun e w' => e = .returned (pv top) ∧ w.drewN k = w') := fun k => loadI g top pd (w.drewN k) hf ht
  have HL1 : Hid (Calls Try.prog 36 #[.pointer (some ⟨g, 0, none⟩)] w.drew fun e w' => e = .returned (pv top) ∧ w.drew = w') := loadI g top pd w.drew hf ht
  have HO : Hid (ObI w o g K (some c) false res) := h
  have HF : Hid (FrI w g top pd) := hf
  have HC : Hid (ClI w c x below) := hc
  clear h hf hc ht
  unfold nxt at c1
  rw [pv_some] at c2
  unfold pv at d1
  obtain ⟨tv, htv⟩ : ∃ tv, (top.map fun c => (⟨c, 0, none⟩ : Addr)) = tv := ⟨_, rfl⟩
  unfold pv at HL HL1
  rw [htv] at HL HL1
  go_enter Try.func48, Try.ntmps48
  go_upto_region 1 with fail
  go_cut [2] (fun s2 wx => s2 = .bool false ∧ wx = (w.setCell ⟨c, 1, none⟩ (.pointer tv)).drew)
  case first =>
    go_region_with (go_at_call 36; refine HL1.out.mono ?_; rintro e w' ⟨rfl, rfl⟩)
    all_goals (go_wp2_with fail; go_meet; exact ⟨rfl, rfl⟩)
  case rest =>
    obtain ⟨rfl, rfl⟩ := hcut
    go_wp2
    go_ret
    have q1 : ObI (w.setCell ⟨c, 1, none⟩ (.pointer tv)) o g K (some c) false res := Bk.other HO.out hoc _
    have q2 : FrI (w.setCell ⟨c, 1, none⟩ (.pointer tv)) g top pd := Bk.other HF.out hgc _
    have q3 : ClI (w.setCell ⟨c, 1, none⟩ (.pointer tv)) c x top := by unfold ClI pv; rw [htv]; exact Bk.put HC.out 1 _
    exact ⟨⟨rfl, Bk.put q1 1 _, Bk.other q2 hgo _, (((Ch.refl w _).set (by simp) _).set (by simp) _).drew⟩, Bk.other q3 (fun e => hoc e.symm) _⟩

def ObS (w : World) (o g K : Nat) (at_ : Option Nat) (fin : Bool) (res : Int) : Prop := Bk w o 98 #[.pointer (some ⟨g, 0, none⟩), nxt K o, pv at_, .bool fin, .int .i64 res]

section
variable {w : World} {o g K : Nat} {at_ top : Option Nat} {fin : Bool} {res pd : Int}
theorem ObS.c0 (h : ObS w o g K at_ fin res) : w.cell? ⟨o, 0, none⟩ = some (.pointer (some ⟨g, 0, none⟩)) := (Bk.cell h 0).trans rfl
theorem ObS.c1 (h : ObS w o g K at_ fin res) : w.cell? ⟨o, 1, none⟩ = some (nxt K o) := (Bk.cell h 1).trans rfl
theorem ObS.c2 (h : ObS w o g K at_ fin res) : w.cell? ⟨o, 2, none⟩ = some (pv at_) := (Bk.cell h 2).trans rfl
theorem ObS.c3 (h : ObS w o g K at_ fin res) : w.cell? ⟨o, 3, none⟩ = some (.bool fin) := (Bk.cell h 3).trans rfl
theorem ObS.c4 (h : ObS w o g K at_ fin res) : w.cell? ⟨o, 4, none⟩ = some (.int .i64 res) := (Bk.cell h 4).trans rfl
end

structure PoS (w : World) (o g : Nat) (bs : List Nat) (b : Bool) (K : Nat) (at_ : Option Nat) (fin : Bool) (res : Int) (top : Option Nat) (pd : Int) (e : Ending) (w' : World) : Prop where
  ret : e = .returned (.bool b)
  op : ObS w' o g K at_ fin res
  fr : FrS w' g top pd
  ch : Ch w w' bs

set_option maxHeartbeats 400000 in
theorem beginS (o g K : Nat) (at_ top : Option Nat) (res pd : Int) (w : World) (h : ObS w o g K at_ false res) (hf : FrS w g top pd) (h1 : -1000000 ≤ pd) (h2 : pd < 1000000) :
    Calls Try.prog 43 #[.pointer (some ⟨o, 0, none⟩)] w (PoS w o g [o, g] false 53 at_ false res top (pd + 1)) := by
  have c0 := h.c0
  have c1 := h.c1
  have f1 : w.frozen? ⟨o, 1, none⟩ = false := Bk.frozen h 1
  have hog : ¬ o = g := Bk.ne h hf (by decide)
  have H := Lib.hid (add64_any g _ _ pd 1 w hf h1 (by omega) (by omega) (by omega))
  have HO : Hid (ObS w o g K at_ false res) := h
  have HF : Hid (FrS w g top pd) := hf
  clear h hf
  unfold nxt at c1
  go_enter Try.func43, Try.ntmps43
  go_wp2_with fail
  refine H.out.mono ?_
  rintro e w' ⟨rfl, rfl⟩
  go_wp2
  go_ret
  have q1 : ObS (w.setCell ⟨g, 1, none⟩ (.int .i64 (pd + 1))) o g K at_ false res := Bk.other HO.out hog _
  have q2 : FrS (w.setCell ⟨g, 1, none⟩ (.int .i64 (pd + 1))) g top (pd + 1) := Bk.put HF.out 1 _
  exact ⟨rfl, Bk.put q1 1 _, Bk.other q2 (fun e => hog e.symm) _, ((Ch.refl w _).set (by simp) _).set (by simp) _⟩

set_option maxHeartbeats 800000 in
theorem readS (o g K c : Nat) (top below : Option Nat) (x : Value) (res pd : Int) (w : World) (h : ObS w o g K (some c) false res) (hf : FrS w g top pd) (hc : ClS w c x below) (ht : PtS w top) :
    Calls Try.prog 53 #[.pointer (some ⟨o, 0, none⟩)] w fun e w' => PoS w o g [o, c] false 59 (some c) false res top pd e w' ∧ ClS w' c x top := by
  have c0 := h.c0
  have c1 := h.c1
  have c2 := h.c2
  have f1 : w.frozen? ⟨o, 1, none⟩ = false := Bk.frozen h 1
  have d1 : w.cell? ⟨c, 1, none⟩ = some (pv below) := (Bk.cell hc 1).trans rfl
  have g1 : w.frozen? ⟨c, 1, none⟩ = false := Bk.frozen hc 1
  have hoc : ¬ o = c := Bk.ne h hc (by decide)
  have hgc : ¬ g = c := Bk.ne hf hc (by decide)
  have hgo : ¬ g = o := Bk.ne hf h (by decide)
  have HL : Hid (∀ k, Calls Try.prog 45 #[.pointer (some ⟨g, 0, none⟩)] (w.drewN k) fun e w' => e = .returned (pv top) ∧ w.drewN k = w') := fun k => loadS g top pd (w.drewN k) hf ht
  have HL1 : Hid (Calls Try.prog 45 #[.pointer (some ⟨g, 0, none⟩)] w.drew fun e w' => e = .returned (pv top) ∧ w.drew = w') := loadS g top pd w.drew hf ht
  have HO : Hid (ObS w o g K (some c) false res) := h
  have HF : Hid (FrS w g top pd) := hf
  have HC : Hid (ClS w c x below) := hc
  clear h hf hc ht
  unfold nxt at c1
  rw [pv_some] at c2
  unfold pv at d1
  obtain ⟨tv, htv⟩ : ∃ tv, (top.map fun c => (⟨c, 0, none⟩ : Addr)) = tv := ⟨_, rfl⟩
  unfold pv at HL HL1
  rw [htv] at HL HL1
  go_enter Try.func53, Try.ntmps53
  go_upto_region 1 with fail
  go_cut [2] (fun s2 wx => s2 = .bool false ∧ wx = (w.setCell ⟨c, 1, none⟩ (.pointer tv)).drew)
  case first =>
    go_region_with (go_at_call 45; refine HL1.out.mono ?_; rintro e w' ⟨rfl, rfl⟩)
    all_goals (go_wp2_with fail; go_meet; exact ⟨rfl, rfl⟩)
  case rest =>
    obtain ⟨rfl, rfl⟩ := hcut
    go_wp2
    go_ret
    have q1 : ObS (w.setCell ⟨c, 1, none⟩ (.pointer tv)) o g K (some c) false res := Bk.other HO.out hoc _
    have q2 : FrS (w.setCell ⟨c, 1, none⟩ (.pointer tv)) g top pd := Bk.other HF.out hgc _
    have q3 : ClS (w.setCell ⟨c, 1, none⟩ (.pointer tv)) c x top := by unfold ClS pv; rw [htv]; exact Bk.put HC.out 1 _
    exact ⟨⟨rfl, Bk.put q1 1 _, Bk.other q2 hgo _, (((Ch.refl w _).set (by simp) _).set (by simp) _).drew⟩, Bk.other q3 (fun e => hoc e.symm) _⟩

end Go.Proofs.Ytokdalilnckkoaa
