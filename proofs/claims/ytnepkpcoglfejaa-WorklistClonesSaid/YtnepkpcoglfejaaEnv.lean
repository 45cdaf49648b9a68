/- A list of items ordered by their keys, in a world that has grown. -/
import Derived.Test.YtnepkpcoglfejaaAwake
import Derived.Test.YtnepkpcoglfejaaPopA
import Derived.Test.YtnepkpcoglfejaaPushA
import Derived.Test.YtnepkpcoglfejaaPeekA
namespace Go.Proofs.Ytnepkpcoglfejaa
open Go.RowKit Go.Sort Go.Shelf

/-- The list at p, made since w0. -/
structure EnA (w0 w : World) (p : Nat) (hv : Value) (E : List ((Int × Int) × Int)) (N : Nat) : Prop where
  wl : WlA w p w0.heap.size (.func (.func 11) #[] #[]) hv ltA E N
  gr : Gr w0 w
  hp : w0.heap.size ≤ p
/-- The blocks of a list. -/
def Lb (p : Nat) (hv : Value) (b : Nat) : Prop := hv.ownBlock = some b ∨ b = p
section
variable {w0 w w' : World} {p N : Nat} {hv : Value} {E : List ((Int × Int) × Int)} {X : Nat → Prop}
theorem EnA.fr (h : EnA w0 w p hv E N) (hF : Fr X w w') (hX : ∀ b, b < w.heap.size → X b → w0.heap.size ≤ b) (hn : ∀ b, Lb p hv b → ¬ X b) : EnA w0 w' p hv E N :=
  ⟨h.wl.fr hF (hn p (.inr rfl)) fun b e => hn b (.inl e), h.gr.step hF hX, h.hp⟩
theorem EnA.no (h : EnA w0 w p hv E N) (hF : Fr (fun _ => False) w w') : EnA w0 w' p hv E N := h.fr hF (fun _ _ h => h.elim) fun _ _ h => h
theorem EnA.alloc (h : EnA w0 w p hv E N) (o : Obj) : EnA w0 (w.alloc o) p hv E N := h.no (Fr.alloc _ _ _)
theorem EnA.lb (h : EnA w0 w p hv E N) {b : Nat} (hb : Lb p hv b) : w0.heap.size ≤ b ∧ b < w.heap.size := by
  rcases hb with e | rfl
  · exact h.wl.bd.2 b e
  · exact ⟨h.hp, h.wl.bd.1⟩
theorem EnA.ty (h : EnA w0 w p hv E N) {b t : Nat} {cs : Array Value} (hb : Lb p hv b) (hk : Bk w b t cs) : t = 71 ∨ t = 73 := by
  obtain ⟨hs, h1, _⟩ := h.wl
  rcases hb with e | rfl
  · obtain ⟨cur, h2⟩ := rw_bk h1.row b e
    by_cases h9 : t = 73
    · exact .inr h9
    · exact absurd rfl (Bk.ne hk h2 h9)
  · by_cases h9 : t = 71
    · exact .inl h9
    · exact absurd rfl (Bk.ne hk h1.hd h9)
theorem EnA.step (h : EnA w0 w p hv E N) (hF : Fr (Lb p hv) w w') : Gr w0 w' := h.gr.step hF fun _ _ hb => (h.lb hb).1

theorem e_newA (g : Gr w0 w) : Calls Try.prog 10 #[.func (.func 11) #[] #[]] w fun e w' => e = .returned (.pointer (some ⟨w.heap.size, 0, none⟩)) ∧ EnA w0 w' w.heap.size (.slice none 0 0) [] 0 ∧ Fr (fun _ => False) w w' :=
  (newA w 11 w0.heap.size #[] ltA).mono fun _ _ ⟨h1, h2, h3⟩ => ⟨h1, ⟨h2, g.no h3, g.size⟩, h3⟩
theorem e_pushA (h : EnA w0 w p hv E N) (x : Int × Int) (hl : E.length ≤ 999999) (hN : N ≤ 999999) :
    Calls Try.prog 12 #[.pointer (some ⟨p, 0, none⟩), .slice (some ⟨w.heap.size, 0, none⟩) 1 1] (w.alloc (.cells #[.int .i64 x.1, .int .i64 x.2] 27)) fun e w' => e = .returned (.tuple #[]) ∧ ∃ hv', EnA w0 w' p hv' (ins (bfr ltA) (x, (N : Int)) E) (N + 1) ∧ (hv'.ownBlock = hv.ownBlock ∨ ∀ b, hv'.ownBlock = some b → w.heap.size ≤ b) ∧ Fr (Lb p hv) w w' := by
  have h2 := h.alloc (.cells #[.int .i64 x.1, .int .i64 x.2] 27)
  refine (pushA lessA _ p _ N 0 1 1 hv _ [x] E h2.wl (fun h => h) (fun _ _ h => h) h.hp (fun _ _ => trivial) (fun _ _ => trivial) rfl (by omega) (by omega) trivial ?_ ?_).mono ?_
  · exact Bk.sees (Bk.made w 27 #[.int .i64 x.1, .int .i64 x.2]) (by simp)
  · rintro ad ⟨⟩
    refine ⟨fun e => ?_, fun h => h, fun e => ?_⟩
    · have := (h.lb (.inr rfl)).2
      simp at e
      omega
    · have := (h.lb (.inl e)).2
      simp at this
  · rintro e w' ⟨rfl, hv', W, ho, _, F⟩
    have F' : Fr (Lb p hv) w w' := (Fr.alloc _ _ _).trans (F.wide fun b _ h => h.elim (fun h => h.elim) fun h => h)
    exact ⟨rfl, hv', ⟨W, h.step F', h.hp⟩, ho.imp_right fun h b e => by have := h b e; simp at this; omega, F'⟩
theorem e_popA (h : EnA w0 w p hv E N) (hl : E.length ≤ 1000000) :
    Calls Try.prog 13 #[.pointer (some ⟨p, 0, none⟩)] w fun e w' => e = .returned (.tuple #[encXA (hdA E), .bool !E.isEmpty]) ∧ ∃ hv', EnA w0 w' p hv' E.tail N ∧ hv'.ownBlock = hv.ownBlock ∧ Fr (Lb p hv) w w' := by
  refine (popA lessA w p _ N 0 hv E h.wl (fun h => h) (fun _ _ h => h) (fun _ _ => trivial) hl trivial).mono ?_
  rintro e w' ⟨rfl, hv', W, ho, _, F⟩
  have F' : Fr (Lb p hv) w w' := F.wide fun b _ h => h.elim (fun h => h.elim) fun h => h
  exact ⟨rfl, hv', ⟨W, h.step F', h.hp⟩, ho, F'⟩
theorem e_peekA (h : EnA w0 w p hv E N) : Calls Try.prog 38 #[.pointer (some ⟨p, 0, none⟩)] w fun e w' => e = .returned (.tuple #[encXA (hdA E), .bool !E.isEmpty]) ∧ EnA w0 w' p hv E N ∧ Fr (fun _ => False) w w' :=
  (peekA w p _ N _ hv ltA lessA.ord E h.wl).mono fun _ _ ⟨h1, h2⟩ => ⟨h1, h.no h2, h2⟩
theorem e_lenA (h : EnA w0 w p hv E N) : Calls Try.prog 14 #[.pointer (some ⟨p, 0, none⟩)] w fun e w' => e = .returned (.int .i64 E.length) ∧ w = w' := lenA w p _ N _ hv ltA E h.wl
theorem e_lenQ (h : EnA w0 w p hv E N) (q : Nat) : Calls Try.prog 14 #[.pointer (some ⟨p, 0, none⟩)] (w.drewN q) fun e w' => e = .returned (.int .i64 E.length) ∧ w' = w.drewN q :=
  (lenA (w.drewN q) p _ N _ hv ltA E (h.no (Fr.drewN _ _ _)).wl).mono fun _ _ ⟨h1, h2⟩ => ⟨h1, h2.symm⟩
theorem EnA.drewN (h : EnA w0 w p hv E N) (q : Nat) : EnA w0 (w.drewN q) p hv E N := h.no (Fr.drewN _ _ _)
end
end Go.Proofs.Ytnepkpcoglfejaa
