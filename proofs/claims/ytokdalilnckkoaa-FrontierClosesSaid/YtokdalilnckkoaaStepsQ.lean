/- What holds at the head of the loop of FrontierSteps: no walk. -/
import Derived.Test.YtokdalilnckkoaaSame
namespace Go.Proofs.Ytokdalilnckkoaa
open Go.RowKit Go.Shelf

theorem e_doneI (w0 w : World) (g : Nat) (m : Mem Int) (ops : List (Nat × OpS)) (h : EnI w0 w g m ops) : Calls Try.prog 20 #[.pointer (some ⟨g, 0, none⟩)] w fun e w' => e = .returned (.pointer (some ⟨w.heap.size, 0, none⟩)) ∧ EnI w0 w' g m (ops ++ [(w.heap.size, opDone)]) ∧ FmI w w' := by
  refine (doneI g w).mono ?_
  rintro e w' ⟨rfl, rfl⟩
  have hb : ∀ q : Obj, Below w.heap.size w (w.alloc q) := fun q => (Below.refl _ w).alloc (Nat.le_refl _) q
  have hs := h.bel.size
  exact ⟨rfl, ⟨h.rel.add (hb _) (Nat.le_refl _) (Bk.made w _ _) ⟨on_none _, fun h => (by simp [opDone] at h), fun _ => rfl, fun e => (by simp [opDone] at e)⟩, h.up.add _ hs, h.bel.trans ((hb _).mono hs)⟩, .below (hb _)⟩

theorem sim_push {m : Mem Int} {idx : List Nat} {c : Nat} {x : Int} (hc : c ∉ m.cells) (hs : ∀ d ∈ idx, d ∈ m.cells) : OpSim (addCell m c x) idx (opPush c) ⟨1, x, 1, -1, -1, 0, 0⟩ :=
  ⟨by simp [opPush], by simp [gotOfI, opPush], rfl, .inl ⟨by simp [opPush], rfl, c, rfl, by simp [addCell, upd], fun _ => ⟨by simp [opPush], fun _ => ⟨fun h => hc (hs c h), by simp [addCell, upd]⟩, by simp [opPush], by simp [opPush]⟩⟩⟩
theorem sim_take {m : Mem Int} {idx : List Nat} : OpSim m idx opTake ⟨2, 0, 1, -1, -1, 0, 0⟩ :=
  ⟨by simp [opTake], by simp [gotOfI, opTake], rfl, .inr (.inl ⟨by simp [opTake], by simp [opTake], rfl, fun _ => ⟨by simp [opTake], by simp [opTake]⟩⟩)⟩
theorem sim_done {m : Mem Int} {idx : List Nat} : OpSim m idx opDone ⟨3, 0, 1, -1, -1, 0, 0⟩ :=
  ⟨by simp [opDone], by simp [gotOfI, opDone], rfl, .inr (.inr ⟨rfl, rfl, fun _ => rfl⟩)⟩

theorem nodup_len : ∀ {l l' : List Nat}, l.Nodup → (∀ x ∈ l, x ∈ l') → l.length ≤ l'.length
  | [], _, _, _ => Nat.zero_le _
  | a :: l, l', hn, hs => by
    have ha : a ∈ l' := hs a (by simp)
    rw [List.nodup_cons] at hn
    have := nodup_len (l' := l'.erase a) hn.2 (fun x hx => (List.mem_erase_of_ne (show x ≠ a from fun e => hn.1 (by rw [← e]; exact hx))).2 (hs x (by simp [hx])))
    rw [List.length_erase_of_mem ha] at this
    have h0 : 0 < l'.length := List.length_pos_of_mem ha
    rw [List.length_cons]
    omega

structure S1 (w0 : World) (g r : Nat) (m : Mem Int) (ops : List (Nat × OpS)) (f : RF) (vc vo : Value) (idx : List Nat) (v5 : Value) (k : Nat) (w : World) : Prop where
  en : EnI w0 w g m ops
  rf : Rf w w0.heap.size r f vc vo
  o5 : Ow w w0.heap.size 29 v5 (ops.map fun p => pt p.1)
  stk : Stk m ops
  sim : Sim m ops f idx
  pd1 : -(k : Int) ≤ m.pd
  pd2 : m.pd ≤ k
  olen : ops.length ≤ k

section
variable {w0 w w1 w2 w3 : World} {g r k : Nat} {m : Mem Int} {ops : List (Nat × OpS)} {f : RF} {vc vo v5 v5' vo' : Value} {idx : List Nat}
theorem S1.grow (h : S1 w0 g r m ops f vc vo idx v5 k w) (hb : Below w.heap.size w w1) : S1 w0 g r m ops f vc vo idx v5 k w1 :=
  ⟨h.en.grow hb, h.rf.below hb, h.o5.below hb (Nat.le_refl _), h.stk, h.sim, h.pd1, h.pd2, h.olen⟩
theorem S1.alloc (h : S1 w0 g r m ops f vc vo idx v5 k w) (o : Obj) : S1 w0 g r m ops f vc vo idx v5 k (w.alloc o) := h.grow ((Below.refl _ _).alloc (Nat.le_refl _) _)
theorem S1.up (h : S1 w0 g r m ops f vc vo idx v5 k w) : S1 w0 g r m ops f vc vo idx v5 (k + 1) w :=
  ⟨h.en, h.rf, h.o5, h.stk, h.sim, by have := h.pd1; omega, by have := h.pd2; omega, by have := h.olen; omega⟩
theorem S1.lt (h : S1 w0 g r m ops f vc vo idx v5 k w) : ∀ c ∈ m.cells, c < w.heap.size := fun c hc => Bk.lt (h.en.rel.cell c hc)
theorem S1.cells (h : S1 w0 g r m ops f vc vo idx v5 k w) : f.cells.length ≤ k := by
  have h1 : idx.length ≤ m.cells.length := nodup_len h.sim.nd h.sim.sub
  have h2 : m.cells.length ≤ ops.length := by rw [← h.stk.own]; exact List.length_filterMap_le _ _
  have := h.olen
  rw [h.sim.len]
  omega
/-- The stack is that of the reference. -/
theorem S1.same (h : S1 w0 g r m ops f vc vo idx v5 k w) : ∃ L, Chain m m.top L ∧ RCh f.cells f.top (L.map m.item) ∧ L.length ≤ k ∧ f.pd = m.pd := by
  obtain ⟨L, hL, hP⟩ := h.stk.ex
  refine ⟨L, hL, h.sim.all hL h.sim.top, ?_, h.sim.pd⟩
  have h1 := hP.length_eq
  have h2 := List.length_filterMap_le finF ops
  have := h.olen
  rw [List.length_append] at h1
  omega
theorem S1.mid {m' : Mem Int} {ops' : List (Nat × OpS)} (h : S1 w0 g r m ops f vc vo idx v5 k w) (_E : EnI w0 w1 g m' ops') (F : FmI w w1) : Ow w1 w0.heap.size 29 v5 (ops.map fun p => pt p.1) ∧ Rf w1 w0.heap.size r f vc vo :=
  ⟨h.o5.fm F (by decide), h.rf.fm F⟩
/-- A new operation: made, laid in the list, begun by the reference. -/
theorem S1.add {m' : Mem Int} {o : Nat} {s : OpS} {ro : ROp} (h : S1 w0 g r m ops f vc vo idx v5 k w) (E : EnI w0 w1 g m' (ops ++ [(o, s)])) (F : FmI w w1) (hown : Ow w2 w0.heap.size 29 v5' ((ops.map fun p => pt p.1) ++ [pt o])) (G : Gw w1 w2 v5)
    (hstk : Stk m' (ops ++ [(o, s)])) (hsim : Sim m' (ops ++ [(o, s)]) { f with ops := f.ops ++ [ro] } idx) (hpd : m'.pd = m.pd) :
    Rf w2 w0.heap.size r f vc vo ∧ ∀ w3 vo', Rf w3 w0.heap.size r { f with ops := f.ops ++ [ro] } vc vo' → FmR w0.heap.size w2 w3 → S1 w0 g r m' (ops ++ [(o, s)]) { f with ops := f.ops ++ [ro] } vc vo' idx v5' (k + 1) w3 := by
  obtain ⟨o5, rf⟩ := h.mid E F
  have E2 := G.en o5 (by decide) E
  refine ⟨rf.gw o5 G (by decide), fun w3 vo' hr hf => ⟨hf.en E2, hr, ?_, hstk, hsim, by rw [hpd]; have := h.pd1; omega, by rw [hpd]; have := h.pd2; omega, by rw [List.length_append]; have := h.olen; simp; omega⟩⟩
  have := hf.ow hown (by decide)
  simpa using this
theorem S1.show_ (h : S1 w0 g r m ops f vc vo idx v5 k w) (E : EnI w0 w1 g m ops) (F : FmI w w1) : S1 w0 g r m ops f vc vo idx v5 k w1 :=
  ⟨E, h.rf.fm F, h.o5.fm F (by decide), h.stk, h.sim, h.pd1, h.pd2, h.olen⟩
theorem S1.at {o i n c : Nat} {s : OpS} {a : Nat} (h : S1 w0 g r m ops f vc vo idx (.slice (some ⟨a, 0, none⟩) n c) k w) (hi : ops[i]? = some (o, s)) : w.cell? ⟨a, i, none⟩ = some (.pointer (some ⟨o, 0, none⟩)) := by
  obtain ⟨ad, e, _, hc⟩ := (Sees.own (show w.ownsRow w0.heap.size 29 1 (.slice (some ⟨a, 0, none⟩) n c) n (ops.map fun p => pt p.1) from by
    have h1 := h.o5
    obtain ⟨A, c', e, _⟩ := h1.form
    injection e with _ e _
    unfold Ow at h1
    rw [← e] at h1
    exact h1)) i (pt o) (by rw [List.getElem?_map, hi]; rfl)
  injection e with e
  subst e
  rw [add_mk, Nat.zero_add] at hc
  exact hc
/-- The reference's operation in memory. -/
theorem S1.ref {i : Nat} {ro : ROp} (h : S1 w0 g r m ops f vc vo idx v5 k w) (hi : f.ops[i]? = some ro) : ∃ go co, vo = .slice (some ⟨go, 0, none⟩) f.ops.length co ∧ w.cell? ⟨r, 3, none⟩ = some (.slice (some ⟨go, 0, none⟩) f.ops.length co) ∧
    w.cell? ⟨go, i * 7 + 2, none⟩ = some (.int .i64 ro.pc) ∧ w.cell? ⟨go, i * 7 + 5, none⟩ = some (.int .i64 ro.got) ∧ w.cell? ⟨go, i * 7 + 6, none⟩ = some (.int .i64 ro.res) := by
  have hil := (List.getElem?_eq_some_iff.1 hi).1
  have hrf := h.rf
  obtain ⟨go, co, rfl⟩ : ∃ go co, vo = .slice (some ⟨go, 0, none⟩) f.ops.length co := by
    rcases hrf.os.2 with ⟨_, h0⟩ | ⟨g', cap, cur, rfl, _⟩
    · omega
    · exact ⟨g', cap, rfl⟩
  obtain ⟨_, _, c2, _, _, c5, c6, _⟩ := hrf.oc hi rfl
  exact ⟨go, co, rfl, hrf.hd.2.2.2.1, c2, c5, c6⟩
theorem S1.kind {i o : Nat} {s : OpS} {ro : ROp} (h : S1 w0 g r m ops f vc vo idx v5 k w) (hi : ops[i]? = some (o, s)) (hr : f.ops[i]? = some ro) : ro.kind = 1 ∨ ro.kind = 2 ∨ ro.kind = 3 := by
  rcases (h.sim.op i o s ro hi hr).kind with h1 | h1 | h1
  · exact .inl h1.2.1
  · exact .inr (.inl h1.2.2.1)
  · exact .inr (.inr h1.2.1)
/-- What the operation shows is what the reference shows. -/
theorem S1.shows {i o : Nat} {s : OpS} {ro : ROp} (h : S1 w0 g r m ops f vc vo idx v5 k w) (hi : ops[i]? = some (o, s)) (hr : f.ops[i]? = some ro) : (ro.pc == 0) = s.fin ∧ ro.got = gotOfI m s ∧ ro.res = resOf s := by
  have hop := h.sim.op i o s ro hi hr
  refine ⟨hop.fin.symm, hop.got, ?_⟩
  rw [hop.res]
  unfold resOf
  split
  · rfl
  · rename_i hf
    exact (h.stk.okO _ (List.mem_of_getElem? hi)).zero (by simpa using hf)
/-- A step. -/
theorem S1.step {i o : Nat} {s : OpS} {ro : ROp} {vc' : Value} (h : S1 w0 g r m ops f vc vo idx v5 k w) (hi : ops[i]? = some (o, s)) (hr : f.ops[i]? = some ro) (E : EnI w0 w1 g (stp m s).1 (ops.set i (o, (stp m s).2.1))) (F : FmI w w1)
    (R : Rf w2 w0.heap.size r { (rstp f ro).1 with ops := f.ops.set i (rstp f ro).2 } vc' vo) (FR : FmR w0.heap.size w1 w2) :
    ∃ (m' : Mem Int) (ops' : List (Nat × OpS)) (f' : RF) (idx' : List Nat) (s' : OpS) (ro' : ROp), S1 w0 g r m' ops' f' vc' vo idx' v5 (k + 1) w2 ∧ ops'[i]? = some (o, s') ∧ f'.ops[i]? = some ro' ∧ f'.ops.length = f.ops.length := by
  obtain ⟨o5, _⟩ := h.mid E F
  obtain ⟨_, idx', hsim⟩ := h.sim.step h.stk hi hr
  have hpd := stp_pd m s
  have h1 := h.pd1
  have h2 := h.pd2
  refine ⟨_, _, _, idx', _, _, ⟨FR.en E, R, ?_, h.stk.step hi, hsim, by omega, by omega, by rw [List.length_set]; have := h.olen; omega⟩, List.getElem?_set_self (List.getElem?_eq_some_iff.1 hi).1, List.getElem?_set_self (List.getElem?_eq_some_iff.1 hr).1, by simp⟩
  rw [ops_set hi]
  exact FR.ow o5 (by decide)
end

end Go.Proofs.Ytokdalilnckkoaa
