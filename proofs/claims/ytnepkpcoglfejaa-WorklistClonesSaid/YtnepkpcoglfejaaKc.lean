/- What is asked of a 'keep' function value. No program in sight. -/
import Derived.Test.YtnepkpcoglfejaaRow
namespace Go.Proofs.Ytnepkpcoglfejaa
open Go.RowKit

/-- A function value kv that says which items are kept: it may write the blocks c and that of the slice v; S pre v: it was called with the items pre. -/
structure Kc {α : Type} (P : Program) (encX : α → Value) (kp : α → Bool) (kv : Value) (c : Nat → Prop) (S : List α → Value → World → Prop) : Prop where
  stay : ∀ {pre v W W'}, S pre v W → (∀ b, c b ∨ v.ownBlock = some b → W'.heap[b]? = W.heap[b]?) → W.heap.size ≤ W'.heap.size → S pre v W'
  bnd : ∀ {pre v W b}, S pre v W → c b ∨ v.ownBlock = some b → b < W.heap.size
  call : ∃ F cb, kv = .func (.func F) #[] cb ∧ (∀ args W, (callFunc F args).run P W = .ok (.enter F args) W) ∧ ∀ x pre v W, pre.length ≤ 100000 → S pre v W → Calls P F (#[encX x] ++ cb) W fun e w' => e = .returned (.bool (kp x)) ∧ ∃ v', S (pre ++ [x]) v' w' ∧ Fr (fun b => c b ∨ v.ownBlock = some b) W w' ∧ (v'.ownBlock = v.ownBlock ∨ ∀ b, v'.ownBlock = some b → W.heap.size ≤ b)

/-- The entries kept of the first t. -/
def flt {α : Type} (E : List (α × Int)) (kp : α → Bool) (t : Nat) : List (α × Int) := (E.take t).filter fun e => kp e.1
section
variable {α : Type} {E : List (α × Int)} {kp : α → Bool} {t : Nat} {e : α × Int}
theorem flt_zero : flt E kp 0 = [] := rfl
theorem flt_all (h : E.length ≤ t) : flt E kp t = E.filter fun e => kp e.1 := by rw [flt, List.take_of_length_le h]
theorem flt_yes (h : E[t]? = some e) (hk : kp e.1 = true) : flt E kp (t + 1) = flt E kp t ++ [e] := by
  rw [flt, List.take_add_one, h, List.filter_append]
  simp [hk, flt]
theorem flt_no (h : E[t]? = some e) (hk : kp e.1 = false) : flt E kp (t + 1) = flt E kp t := by
  rw [flt, List.take_add_one, h, List.filter_append]
  simp [hk, flt]
theorem flt_le : (flt E kp t).length ≤ t := Nat.le_trans (List.length_filter_le _ _) (by rw [List.length_take]; omega)
theorem map_snoc (h : E[t]? = some e) : (E.take (t + 1)).map (·.1) = (E.take t).map (·.1) ++ [e.1] := by
  rw [List.take_add_one, h]
  simp
end

/-- What holds at the head of a round of Keep. -/
structure Kp {α : Type} (encE : α × Int → List Value) (et k : Nat) (w : World) (c : Nat → Prop) (S : List α → Value → World → Prop) (kp : α → Bool) (E : List (α × Int)) (v0 va : Value) (t : Nat) (r v : Value) (W : World) : Prop where
  rr : W.ownsRow w.heap.size et k r (flt E kp t).length ((flt E kp t).flatMap encE)
  ra : W.ownsRow w.heap.size et k va E.length (E.flatMap encE)
  st : S ((E.take t).map (·.1)) v W
  fr : Fr (fun b => c b ∨ v0.ownBlock = some b) w W
  vo : v.ownBlock = v0.ownBlock ∨ ∀ b, v.ownBlock = some b → w.heap.size ≤ b
  d1 : ∀ b, r.ownBlock = some b → va.ownBlock ≠ some b
  d2 : ∀ b, r.ownBlock = some b → v.ownBlock ≠ some b
  d3 : ∀ b, va.ownBlock = some b → v.ownBlock ≠ some b
  cb : ∀ b, c b → b < w.heap.size
section
variable {α : Type} {P : Program} {encX : α → Value} {kv : Value} {encE : α × Int → List Value} {et k : Nat} {w : World} {c : Nat → Prop} {S : List α → Value → World → Prop} {kp : α → Bool} {E : List (α × Int)} {v0 va r v v' r' : Value} {t : Nat} {W W' : World} {e : α × Int}
theorem Kp.start (K : Kc P encX kp kv c S) (ha : W.ownsRow w.heap.size et k va E.length (E.flatMap encE)) (hs : S [] v0 w) (hF : Fr (fun _ => False) w W) : Kp encE et k w c S kp E v0 va 0 (.slice none 0 0) v0 W := by
  have hv : ∀ b, va.ownBlock = some b → v0.ownBlock ≠ some b := fun b e e' => by
    have := K.bnd hs (.inr e')
    have := (rw_lt ha b e).1
    omega
  exact ⟨⟨by simp [flt], .inl ⟨rfl, rfl⟩⟩, ha, K.stay hs (fun b hb => hF.keep b (K.bnd hs hb) (fun h => h)) hF.size, hF.wide fun _ _ h => h.elim, .inl rfl, fun _ e => by simp [Value.ownBlock] at e, fun _ e => by simp [Value.ownBlock] at e, hv, fun b hb => K.bnd hs (.inl hb)⟩
theorem Kp.grow (K : Kc P encX kp kv c S) (h : Kp encE et k w c S kp E v0 va t r v W) (hF : Fr (fun _ => False) W W') : Kp encE et k w c S kp E v0 va t r v W' :=
  ⟨rw_keep h.rr fun b e => hF.keep b (rw_lt h.rr b e).2 id, rw_keep h.ra fun b e => hF.keep b (rw_lt h.ra b e).2 id, K.stay h.st (fun b hb => hF.keep b (K.bnd h.st hb) id) hF.size, h.fr.trans (hF.wide fun _ _ h => h.elim), h.vo, h.d1, h.d2, h.d3, h.cb⟩
/-- After a call of the function. -/
theorem Kp.called (h : Kp encE et k w c S kp E v0 va t r v W) (he : E[t]? = some e) (hs : S ((E.take t).map (·.1) ++ [e.1]) v' W') (hF : Fr (fun b => c b ∨ v.ownBlock = some b) W W') (hv : v'.ownBlock = v.ownBlock ∨ ∀ b, v'.ownBlock = some b → W.heap.size ≤ b) :
    W'.ownsRow w.heap.size et k r (flt E kp t).length ((flt E kp t).flatMap encE) ∧ W'.ownsRow w.heap.size et k va E.length (E.flatMap encE) ∧ S ((E.take (t + 1)).map (·.1)) v' W' ∧ Fr (fun b => c b ∨ v0.ownBlock = some b) w W' ∧ (v'.ownBlock = v0.ownBlock ∨ ∀ b, v'.ownBlock = some b → w.heap.size ≤ b) ∧ (∀ b, r.ownBlock = some b → v'.ownBlock ≠ some b) ∧ (∀ b, va.ownBlock = some b → v'.ownBlock ≠ some b) := by
  have hsz := h.fr.size
  have n1 : ∀ b, w.heap.size ≤ b → v.ownBlock ≠ some b → ¬ (c b ∨ v.ownBlock = some b) := fun b hb hn hx => hx.elim (fun hc => by have := h.cb b hc; omega) hn
  refine ⟨rw_keep h.rr fun b e => hF.keep b (rw_lt h.rr b e).2 (n1 b (rw_lt h.rr b e).1 (h.d2 b e)), rw_keep h.ra fun b e => hF.keep b (rw_lt h.ra b e).2 (n1 b (rw_lt h.ra b e).1 (h.d3 b e)), by rw [map_snoc he]; exact hs, ?_, ?_, ?_, ?_⟩
  · have h1 : Fr (fun b => (c b ∨ v0.ownBlock = some b) ∨ w.heap.size ≤ b) w W := h.fr.wide fun _ _ h => .inl h
    have h2 : Fr (fun b => (c b ∨ v0.ownBlock = some b) ∨ w.heap.size ≤ b) W W' := hF.wide fun b _ hx => hx.elim (fun hc => .inl (.inl hc)) fun e => h.vo.elim (fun h9 => .inl (.inr (h9 ▸ e))) fun h9 => .inr (h9 b e)
    exact (h1.trans h2).wide fun b hb hx => hx.elim id fun h9 => by omega
  · rcases hv with h1 | h1
    · rw [h1]
      exact h.vo
    · exact .inr fun b e => Nat.le_trans hsz (h1 b e)
  · intro b e e'
    rcases hv with h1 | h1
    · exact h.d2 b e (h1 ▸ e')
    · have := h1 b e'
      have := (rw_lt h.rr b e).2
      omega
  · intro b e e'
    rcases hv with h1 | h1
    · exact h.d3 b e (h1 ▸ e')
    · have := h1 b e'
      have := (rw_lt h.ra b e).2
      omega
theorem Kp.no (h : Kp encE et k w c S kp E v0 va t r v W) (he : E[t]? = some e) (hs : S ((E.take t).map (·.1) ++ [e.1]) v' W') (hF : Fr (fun b => c b ∨ v.ownBlock = some b) W W') (hv : v'.ownBlock = v.ownBlock ∨ ∀ b, v'.ownBlock = some b → W.heap.size ≤ b) (hk : kp e.1 = false) : Kp encE et k w c S kp E v0 va (t + 1) r v' W' := by
  obtain ⟨a1, a2, a3, a4, a5, a6, a7⟩ := h.called he hs hF hv
  exact ⟨by rw [flt_no he hk]; exact a1, a2, a3, a4, a5, h.d1, a6, a7, h.cb⟩
theorem Kp.yes (K : Kc P encX kp kv c S) (h : Kp encE et k w c S kp E v0 va t r v W) (he : E[t]? = some e) (hs : S ((E.take t).map (·.1) ++ [e.1]) v' W') (hF : Fr (fun b => c b ∨ v.ownBlock = some b) W W') (hv : v'.ownBlock = v.ownBlock ∨ ∀ b, v'.ownBlock = some b → W.heap.size ≤ b) (hk : kp e.1 = true) :
    W'.ownsRow w.heap.size et k r (flt E kp t).length ((flt E kp t).flatMap encE) ∧ ∀ r' W'', W''.ownsRow w.heap.size et k r' ((flt E kp t).length + 1) ((flt E kp t).flatMap encE ++ encE e) → Fr (fun b => r.ownBlock = some b) W' W'' → (r'.ownBlock = r.ownBlock ∨ ∀ b, r'.ownBlock = some b → W'.heap.size < b) → Kp encE et k w c S kp E v0 va (t + 1) r' v' W'' := by
  obtain ⟨a1, a2, a3, a4, a5, a6, a7⟩ := h.called he hs hF hv
  refine ⟨a1, fun r' W'' hr hG ho => ?_⟩
  have hsz := a4.size
  refine ⟨?_, rw_keep a2 fun b e => hG.keep b (rw_lt a2 b e).2 fun e' => h.d1 b e' e, K.stay a3 (fun b hb => hG.keep b (K.bnd a3 hb) fun e' => ?_) hG.size, ?_, a5, ?_, ?_, a7, h.cb⟩
  · rw [flt_yes he hk, List.length_append, List.flatMap_append]
    simpa using hr
  · rcases hb with hb | hb
    · have := h.cb b hb
      have := (rw_lt a1 b e').1
      omega
    · exact a6 b e' hb
  · have h1 : Fr (fun b => (c b ∨ v0.ownBlock = some b) ∨ w.heap.size ≤ b) w W' := a4.wide fun _ _ h => .inl h
    have h2 : Fr (fun b => (c b ∨ v0.ownBlock = some b) ∨ w.heap.size ≤ b) W' W'' := hG.wide fun b _ e => .inr (rw_lt a1 b e).1
    exact (h1.trans h2).wide fun b hb hx => hx.elim id fun h9 => by omega
  · intro b e e'
    rcases ho with h1 | h1
    · exact h.d1 b (h1 ▸ e) e'
    · have := h1 b e
      have := (rw_lt a2 b e').2
      omega
  · intro b e e'
    rcases ho with h1 | h1
    · exact a6 b (h1 ▸ e) e'
    · have := h1 b e
      have := K.bnd a3 (.inr e')
      omega
end
end Go.Proofs.Ytnepkpcoglfejaa
