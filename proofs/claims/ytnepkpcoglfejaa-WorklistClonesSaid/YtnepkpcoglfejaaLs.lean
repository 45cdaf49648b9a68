/- Lists in memory. -/
import Derived.Test.YtnepkpcoglfejaaBef
import Derived.Test.YtnepkpcoglfejaaRow
import Derived.BigRegion
namespace Go.Proofs.Ytnepkpcoglfejaa
open Go.RowKit

/-- A list lies at p: its heap holds the entries hs. -/
structure LsA (w : World) (p B : Nat) (fv hv : Value) (N : Nat) (hs : List ((Int × Int) × Int)) : Prop where
  hd : Bk w p 71 #[fv, hv, .int .i64 N]
  row : w.ownsRow B 73 3 hv hs.length (hs.flatMap encEA)
/-- Entry i of the row in block g is written. -/
def putA (w : World) (g i : Nat) (b : (Int × Int) × Int) : World := ((w.setCell ⟨g, i * 3, none⟩ (.int .i64 b.1.1)).setCell ⟨g, i * 3 + 1, none⟩ (.int .i64 b.1.2)).setCell ⟨g, i * 3 + 2, none⟩ (.int .i64 b.2)
theorem putA_row {w : World} {B g n cp i : Nat} {l : List ((Int × Int) × Int)} {a b : (Int × Int) × Int} (h : w.ownsRow B 73 3 (.slice (some ⟨g, 0, none⟩) n cp) n (l.flatMap encEA)) (hi : l[i]? = some a) : (putA w g i b).ownsRow B 73 3 (.slice (some ⟨g, 0, none⟩) n cp) n ((l.set i b).flatMap encEA) := by
  obtain ⟨⟨a1, a2⟩, an⟩ := a
  obtain ⟨⟨b1, b2⟩, bn⟩ := b
  have hlt := (List.getElem?_eq_some_iff.1 hi).1
  have s1 := row_set (F := encEA) (k := 3) (j := 0) (b := ((b1, a2), an)) (x := .int .i64 b1) (fun _ => rfl) h hi (by decide) rfl
  have s2 := row_set (F := encEA) (k := 3) (i := i) (j := 1) (a := ((b1, a2), an)) (b := ((b1, b2), an)) (x := .int .i64 b2) (fun _ => rfl) s1 (List.getElem?_set_self hlt) (by decide) rfl
  rw [List.set_set] at s2
  have s3 := row_set (F := encEA) (k := 3) (i := i) (j := 2) (a := ((b1, b2), an)) (b := ((b1, b2), bn)) (x := .int .i64 bn) (fun _ => rfl) s2 (List.getElem?_set_self hlt) (by decide) rfl
  rw [List.set_set] at s3
  exact s3
theorem putA_fr {X : Nat → Prop} (w : World) (g i : Nat) (b : (Int × Int) × Int) (hX : X g) : Fr X w (putA w g i b) := ((Fr.set _ _ _ hX).trans (Fr.set _ _ _ hX)).trans (Fr.set _ _ _ hX)
theorem LsA.fr {w w' : World} {p B : Nat} {fv hv : Value} {N : Nat} {hs : List ((Int × Int) × Int)} {X : Nat → Prop} (h : LsA w p B fv hv N hs) (hF : Fr X w w') (hp : ¬ X p) (hg : ∀ b, hv.ownBlock = some b → ¬ X b) : LsA w' p B fv hv N hs :=
  ⟨hF.bk h.hd hp, rw_keep h.row fun b e => hF.keep b (rw_lt h.row b e).2 (hg b e)⟩
theorem LsA.swap {w : World} {p B g n cp i q N : Nat} {fv : Value} {hs : List ((Int × Int) × Int)} {a b : (Int × Int) × Int} (h : LsA w p B fv (.slice (some ⟨g, 0, none⟩) n cp) N hs) (hn : hs.length = n) (hi : hs[i]? = some a) (hq : hs[q]? = some b) (hne : i ≠ q) :
    LsA (putA (putA w g i b) g q a).drew p B fv (.slice (some ⟨g, 0, none⟩) n cp) N ((hs.set i b).set q a) := by
  have h2 := h.row
  rw [hn] at h2
  have hpg : p ≠ g := fun e => rw_ne h2 h.hd (by decide) (e ▸ rfl)
  refine ⟨Bk.keep h.hd ?_, ?_⟩
  · have hF : Fr (fun b => b = g) w (putA (putA w g i b) g q a).drew := ((putA_fr (X := fun b => b = g) _ _ _ _ rfl).trans (putA_fr (X := fun b => b = g) _ _ _ _ rfl)).trans (Fr.drew _ _)
    exact hF.keep p h.hd.lt hpg
  · rw [List.length_set, List.length_set, hn]
    exact rw_drew (putA_row (a := b) (putA_row h2 hi) (by rw [List.getElem?_set_ne hne]; exact hq))

/-- A list lies at p: its heap holds the entries hs. -/
structure LsI (w : World) (p B : Nat) (fv hv : Value) (N : Nat) (hs : List (Int × Int)) : Prop where
  hd : Bk w p 77 #[fv, hv, .int .i64 N]
  row : w.ownsRow B 79 2 hv hs.length (hs.flatMap encEI)
/-- Entry i of the row in block g is written. -/
def putI (w : World) (g i : Nat) (b : Int × Int) : World := (w.setCell ⟨g, i * 2, none⟩ (.int .i64 b.1)).setCell ⟨g, i * 2 + 1, none⟩ (.int .i64 b.2)
theorem putI_row {w : World} {B g n cp i : Nat} {l : List (Int × Int)} {a b : Int × Int} (h : w.ownsRow B 79 2 (.slice (some ⟨g, 0, none⟩) n cp) n (l.flatMap encEI)) (hi : l[i]? = some a) : (putI w g i b).ownsRow B 79 2 (.slice (some ⟨g, 0, none⟩) n cp) n ((l.set i b).flatMap encEI) := by
  obtain ⟨a1, an⟩ := a
  obtain ⟨b1, bn⟩ := b
  have hlt := (List.getElem?_eq_some_iff.1 hi).1
  have s1 := row_set (F := encEI) (k := 2) (j := 0) (b := (b1, an)) (x := .int .i64 b1) (fun _ => rfl) h hi (by decide) rfl
  have s2 := row_set (F := encEI) (k := 2) (i := i) (j := 1) (a := (b1, an)) (b := (b1, bn)) (x := .int .i64 bn) (fun _ => rfl) s1 (List.getElem?_set_self hlt) (by decide) rfl
  rw [List.set_set] at s2
  exact s2
theorem putI_fr {X : Nat → Prop} (w : World) (g i : Nat) (b : Int × Int) (hX : X g) : Fr X w (putI w g i b) := (Fr.set _ _ _ hX).trans (Fr.set _ _ _ hX)
theorem LsI.fr {w w' : World} {p B : Nat} {fv hv : Value} {N : Nat} {hs : List (Int × Int)} {X : Nat → Prop} (h : LsI w p B fv hv N hs) (hF : Fr X w w') (hp : ¬ X p) (hg : ∀ b, hv.ownBlock = some b → ¬ X b) : LsI w' p B fv hv N hs :=
  ⟨hF.bk h.hd hp, rw_keep h.row fun b e => hF.keep b (rw_lt h.row b e).2 (hg b e)⟩
theorem LsI.swap {w : World} {p B g n cp i q N : Nat} {fv : Value} {hs : List (Int × Int)} {a b : Int × Int} (h : LsI w p B fv (.slice (some ⟨g, 0, none⟩) n cp) N hs) (hn : hs.length = n) (hi : hs[i]? = some a) (hq : hs[q]? = some b) (hne : i ≠ q) :
    LsI (putI (putI w g i b) g q a).drew p B fv (.slice (some ⟨g, 0, none⟩) n cp) N ((hs.set i b).set q a) := by
  have h2 := h.row
  rw [hn] at h2
  have hpg : p ≠ g := fun e => rw_ne h2 h.hd (by decide) (e ▸ rfl)
  refine ⟨Bk.keep h.hd ?_, ?_⟩
  · have hF : Fr (fun b => b = g) w (putI (putI w g i b) g q a).drew := ((putI_fr (X := fun b => b = g) _ _ _ _ rfl).trans (putI_fr (X := fun b => b = g) _ _ _ _ rfl)).trans (Fr.drew _ _)
    exact hF.keep p h.hd.lt hpg
  · rw [List.length_set, List.length_set, hn]
    exact rw_drew (putI_row (a := b) (putI_row h2 hi) (by rw [List.getElem?_set_ne hne]; exact hq))

/-- A list lies at p: its heap holds the entries hs. -/
structure LsS (w : World) (p B : Nat) (fv hv : Value) (N : Nat) (hs : List (ByteArray × Int)) : Prop where
  hd : Bk w p 89 #[fv, hv, .int .i64 N]
  row : w.ownsRow B 92 2 hv hs.length (hs.flatMap encES)
/-- Entry i of the row in block g is written. -/
def putS (w : World) (g i : Nat) (b : ByteArray × Int) : World := (w.setCell ⟨g, i * 2, none⟩ (.string b.1)).setCell ⟨g, i * 2 + 1, none⟩ (.int .i64 b.2)
theorem putS_row {w : World} {B g n cp i : Nat} {l : List (ByteArray × Int)} {a b : ByteArray × Int} (h : w.ownsRow B 92 2 (.slice (some ⟨g, 0, none⟩) n cp) n (l.flatMap encES)) (hi : l[i]? = some a) : (putS w g i b).ownsRow B 92 2 (.slice (some ⟨g, 0, none⟩) n cp) n ((l.set i b).flatMap encES) := by
  obtain ⟨a1, an⟩ := a
  obtain ⟨b1, bn⟩ := b
  have hlt := (List.getElem?_eq_some_iff.1 hi).1
  have s1 := row_set (F := encES) (k := 2) (j := 0) (b := (b1, an)) (x := .string b1) (fun _ => rfl) h hi (by decide) rfl
  have s2 := row_set (F := encES) (k := 2) (i := i) (j := 1) (a := (b1, an)) (b := (b1, bn)) (x := .int .i64 bn) (fun _ => rfl) s1 (List.getElem?_set_self hlt) (by decide) rfl
  rw [List.set_set] at s2
  exact s2
theorem putS_fr {X : Nat → Prop} (w : World) (g i : Nat) (b : ByteArray × Int) (hX : X g) : Fr X w (putS w g i b) := (Fr.set _ _ _ hX).trans (Fr.set _ _ _ hX)
theorem LsS.fr {w w' : World} {p B : Nat} {fv hv : Value} {N : Nat} {hs : List (ByteArray × Int)} {X : Nat → Prop} (h : LsS w p B fv hv N hs) (hF : Fr X w w') (hp : ¬ X p) (hg : ∀ b, hv.ownBlock = some b → ¬ X b) : LsS w' p B fv hv N hs :=
  ⟨hF.bk h.hd hp, rw_keep h.row fun b e => hF.keep b (rw_lt h.row b e).2 (hg b e)⟩
theorem LsS.swap {w : World} {p B g n cp i q N : Nat} {fv : Value} {hs : List (ByteArray × Int)} {a b : ByteArray × Int} (h : LsS w p B fv (.slice (some ⟨g, 0, none⟩) n cp) N hs) (hn : hs.length = n) (hi : hs[i]? = some a) (hq : hs[q]? = some b) (hne : i ≠ q) :
    LsS (putS (putS w g i b) g q a).drew p B fv (.slice (some ⟨g, 0, none⟩) n cp) N ((hs.set i b).set q a) := by
  have h2 := h.row
  rw [hn] at h2
  have hpg : p ≠ g := fun e => rw_ne h2 h.hd (by decide) (e ▸ rfl)
  refine ⟨Bk.keep h.hd ?_, ?_⟩
  · have hF : Fr (fun b => b = g) w (putS (putS w g i b) g q a).drew := ((putS_fr (X := fun b => b = g) _ _ _ _ rfl).trans (putS_fr (X := fun b => b = g) _ _ _ _ rfl)).trans (Fr.drew _ _)
    exact hF.keep p h.hd.lt hpg
  · rw [List.length_set, List.length_set, hn]
    exact rw_drew (putS_row (a := b) (putS_row h2 hi) (by rw [List.getElem?_set_ne hne]; exact hq))


end Go.Proofs.Ytnepkpcoglfejaa
