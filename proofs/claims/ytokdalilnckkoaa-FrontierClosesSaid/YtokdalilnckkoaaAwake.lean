/- awake: the examples of the document. -/
import Derived.Test.YtokdalilnckkoaaEnv
namespace Go.Proofs.Ytokdalilnckkoaa
open Go.RowKit Go.Shelf

attribute [local go_sem] Oper.semAt_some

theorem push_alone {α : Type} (m : Mem α) (c : Nat) : allSteps 5 m (opPush c) = ({ m with pd := m.pd + 1, below := upd m.below c m.top, top := some c }, ⟨2, some c, true, 0⟩) := by
  simp [allSteps, stp, opPush, upd]

def bsa : Bs := ⟨⟨#[97]⟩, by decide⟩
def bsb : Bs := ⟨⟨#[98]⟩, by decide⟩

/-- The frontier with a and b. -/
structure Ab (c1 c2 : Nat) (m : Mem Bs) : Prop where
  ne : c1 ≠ c2
  top : m.top = some c2
  pd : m.pd = 2
  cells : m.cells = [c1, c2]
  a : m.item c1 = bsa
  b : m.item c2 = bsb
  below2 : m.below c2 = some c1
  below1 : m.below c1 = none

section
variable {c1 c2 : Nat} {m : Mem Bs} (A : Ab c1 c2 m)
include A
theorem Ab.s1 : stp m opTake = (m, ⟨5, some c2, false, 0⟩, false) := by simp [stp, opTake, A.top]
theorem Ab.s2 : stp m ⟨5, some c2, false, 0⟩ = ({ m with top := some c1 }, ⟨4, some c2, true, 1⟩, true) := by simp [stp, A.top, A.below2]
theorem Ab.s3 : stp { m with top := some c1 } ⟨5, some c2, false, 0⟩ = ({ m with top := some c1 }, ⟨4, some c2, false, 0⟩, false) := by simp [stp, A.ne]
omit A in
theorem Ab.s4 : stp { m with top := some c1 } ⟨4, some c2, false, 0⟩ = ({ m with top := some c1 }, ⟨5, some c1, false, 0⟩, false) := by simp [stp]
theorem Ab.s5 : stp { m with top := some c1 } ⟨5, some c1, false, 0⟩ = ({ m with top := none }, ⟨4, some c1, true, 1⟩, true) := by simp [stp, A.below1]
end

theorem e_st {w0 w : World} {g : Nat} {m m' : Mem Bs} {ops : List (Nat × OpS)} (h : EnS w0 w g m ops) (i o : Nat) (s : OpS) {s' : OpS} {b : Bool} (hi : ops[i]? = some (o, s)) (hp : m.pd = 2) (hpc : 1 ≤ s.pc ∧ s.pc ≤ 6) (hs : stp m s = (m', s', b)) :
    Calls Try.prog 30 #[.pointer (some ⟨o, 0, none⟩)] w fun e w' => e = .returned (.bool b) ∧ EnS w0 w' g m' (ops.set i (o, s')) ∧ FmS w w' := by
  have := e_stepS w0 w g m ops h i o s hi (by omega) (by omega) hpc
  rw [hs] at this
  exact this

theorem e_run_any {w0 w : World} {g : Nat} {m : Mem Bs} {ops : List (Nat × OpS)} (h : EnS w0 w g m ops) (i o c : Nat) (hi : ops[i]? = some (o, opPush c)) (h1 : -900000 ≤ m.pd - 5) (h2 : m.pd + 5 ≤ 900000) : Calls Try.prog 26 #[.pointer (some ⟨o, 0, none⟩)] w fun e w' =>
    ∃ u v, e = .returned (.tuple #[u, v]) ∧ EnS w0 w' g { m with pd := m.pd + 1, below := upd m.below c m.top, top := some c } (ops.set i (o, ⟨2, some c, true, 0⟩)) := by
  refine (e_runS w0 w g m ops h i o _ hi h1 h2 (by simp [PcS, opPush])).mono ?_
  rw [push_alone]
  rintro e w' ⟨rfl, E, _⟩
  exact ⟨_, _, rfl, E⟩

def cat (pre : List Bs) : ByteArray := pre.foldl (fun s x => s ++ x.1) ByteArray.empty
theorem cat_snoc (pre : List Bs) (x : Bs) : cat (pre ++ [x]) = cat pre ++ x.1 := by simp [cat]
theorem cat_size_add (pre : List Bs) : ∀ a : ByteArray, (pre.foldl (fun s x => s ++ x.1) a).size ≤ a.size + 1000 * pre.length := by
  induction pre with
  | nil => intro a; simp
  | cons x pre ih =>
    intro a
    have h := ih (a ++ x.1)
    rw [ByteArray.size_append] at h
    have := x.2
    simp only [List.foldl_cons, List.length_cons]
    omega
theorem cat_size (pre : List Bs) : (cat pre).size ≤ 1000 * pre.length := by
  have h := cat_size_add pre ByteArray.empty
  have h0 : ByteArray.empty.size = 0 := rfl
  rw [h0, Nat.zero_add] at h
  exact h

theorem FmS.dfr {w w' : World} (h : FmS w w') {D : Nat} {x : Option (List Deferred)} (hd : w.heap[D]? = some (.deferred x)) : w'.heap[D]? = some (.deferred x) :=
  (h.keep D (Array.getElem?_eq_some_iff.1 hd).1 fun cs t e => by rw [hd] at e; cases e).trans hd

set_option maxRecDepth 100000 in
set_option maxHeartbeats 1000000 in
theorem awake_any (w : World) : Calls Try.prog 7 #[] w fun e w' => e = .returned (.bool true) ∧ Below w.heap.size w w' := by
  refine calls_of_wp_marks Try.func7 rfl ?_
  simp only [Try.ntmps7, List.size_toArray, List.length_nil, Nat.reduceSub, Array.replicate_succ, Array.replicate_zero, List.push_toArray, List.append_toArray, List.nil_append, List.cons_append]
  go_wp2_with fail
  refine (e_newS w w (Below.refl _ _)).mono ?_
  rintro e w1 ⟨rfl, E1, F1⟩
  replace E1 := Lib.hid E1
  clear F1
  go_wp2_with fail
  refine (e_pushS w w1 _ _ _ E1.out bsa).mono ?_
  rintro e w2 ⟨rfl, E2, F2⟩
  replace E2 := Lib.hid E2
  clear F2
  go_wp2_with fail
  refine (e_run_any E2.out 0 _ _ rfl (by simp [addCell, mem0S]) (by simp [addCell, mem0S])).mono ?_
  rintro e w3 ⟨u3, v3, rfl, E3⟩
  replace E3 := Lib.hid E3
  go_wp2_with fail
  refine (e_pushS w w3 _ _ _ E3.out bsb).mono ?_
  rintro e w4 ⟨rfl, E4, F4⟩
  replace E4 := Lib.hid E4
  clear F4
  go_wp2_with fail
  refine (e_run_any E4.out 1 _ _ rfl (by simp [addCell, mem0S]) (by simp [addCell, mem0S])).mono ?_
  rintro e w5 ⟨u5, v5, rfl, E5⟩
  have hne : w1.heap.size ≠ w3.heap.size := by
    have := Bk.lt (E3.out.rel.cell w1.heap.size (by simp [addCell, mem0S]))
    omega
  obtain ⟨m5, E5', A5⟩ : ∃ m5, EnS w w5 w.heap.size m5 [(w1.heap.size + 1, ⟨2, some w1.heap.size, true, 0⟩), (w3.heap.size + 1, ⟨2, some w3.heap.size, true, 0⟩)] ∧ Ab w1.heap.size w3.heap.size m5 :=
    ⟨_, E5, hne, rfl, rfl, rfl, by simp [addCell, mem0S, upd, hne], by simp [addCell, mem0S, upd], by simp [addCell, mem0S, upd], by simp [addCell, mem0S, upd, hne]⟩
  clear E5
  have E5 := Lib.hid E5'
  clear E5'
  replace A5 := Lib.hid A5
  clear E1 E2 E3 E4 hne
  have C5 : Hid (Chain m5 m5.top [w3.heap.size, w1.heap.size]) := Lib.hid (by simp [Chain, A5.out.top, A5.out.cells, A5.out.below2, A5.out.below1])
  generalize w1.heap.size = c1 at *
  generalize w3.heap.size = c2 at *
  go_wp2_with fail
  refine (e_lenS w w5 _ _ _ E5.out _ C5.out (by simp)).mono ?_
  rintro e w6 ⟨rfl, E6, F6⟩
  replace E6 := Lib.hid E6
  clear F6 E5
  go_wp2_with fail
  refine (allS _ _).mono ?_
  rintro e w7 ⟨rfl, rfl⟩
  go_wp2_with fail
  have hb := cell_new_l (w6.alloc (.cells #[.string ⟨#[]⟩] 9)) (.pointer (some ⟨w.heap.size, 0, none⟩)) 58
  rw [World.size_alloc] at hb
  have hB0 : Below w6.heap.size w6 ((w6.alloc (.cells #[.string ⟨#[]⟩] 9)).alloc (.cells #[.pointer (some ⟨w.heap.size, 0, none⟩)] 58)) := ((Below.refl _ w6).alloc (Nat.le_refl _) _).alloc (by simp) _
  have hS := E6.out.rel.iter C5.out
  have hxs : [c2, c1].map m5.item = [bsb, bsa] := by simp [A5.out.a, A5.out.b]
  rw [hxs] at hS
  refine wpIn_wide.1 (wpIn_rangeFunc_ownF (F := Fence.wide) (n := 9) rfl (by decide) (gf := 44) (lb := #[.pointer (some ⟨w6.heap.size + 1, 0, none⟩)]) rfl trivial (enters_of Try.func44 (by kernel_rfl) rfl)
    (hS 8 (w6.heap.size + 1) _ (by decide) hB0 (by simp) hb.1) belowK_t (belowK_b (by simp; omega)) (Below.refl _ _) (fun _ => rfl)
    (fun pre W => Boxed W w6.heap.size 9 (.string (cat pre)) ∧ Below w6.heap.size w6 W)
    (fun _ _ _ => False)
    (OwnFrom.and (Own.from (boxed_own _ _ _) _) (ownFrom_below (Nat.le_refl _) (by simp; omega)))
    (fun _ _ _ _ _ hs _ _ => hs)
    ⟨(Boxed.new w6 9 (.string ⟨#[]⟩)).alloc _, hB0⟩
    ?a1 ?assign ?body ?done ?stop)
  case assign =>
    intro l x W K hK
    gi_wp2
    exact hK
  case body =>
    rintro l pre x W ⟨hX, hB⟩ hlt
    have hc := hX.cell
    have hf := hX.frozen
    replace hX := Lib.hid hX
    have hz := cat_size pre
    have hx := x.2
    have hsz : ¬ 9223372036854775807 < (cat pre).size + x.1.size := by
      simp only [List.length_cons, List.length_nil] at hlt
      omega
    clear hz hx hlt
    gi_wp2
    exact ⟨KeepsOthers.setCell _ _ _, (Below.refl w6.heap.size W).setCell (p := ⟨w6.heap.size, 0, none⟩) (Nat.le_refl _) _, by rw [cat_snoc]; exact hX.out.set _, hB.setCell (p := ⟨w6.heap.size, 0, none⟩) (Nat.le_refl _) _⟩
  case done =>
    rintro D ys W hD rfl ⟨hX, hB⟩ hK
    have hcat : cat [bsb, bsa] = ⟨#[98, 97]⟩ := by decide
    rw [hcat] at hX
    have hwD : w.heap.size ≤ D := by
      have h1 := E6.out.bel.size
      simp only [World.size_alloc] at hD
      omega
    replace hwD := Lib.hid hwD
    have E7 : Hid (EnS w W _ m5 _) := Lib.hid (E6.out.grow hB)
    have X7 := Lib.hid hX
    have D7 := Lib.hid hK
    clear hD hB hX hK hcat hS hxs hb hB0 E6 C5
    generalize w6.heap.size = b at *
    generalize w6.heap.size + 1 = b1 at *
    go_wp2_with fail
    refine (e_takeS w W _ _ _ E7.out).mono ?_
    rintro e w8 ⟨rfl, E8, F8⟩
    replace E8 := Lib.hid E8
    have X8 : Hid (Boxed w8 b 9 (.string ⟨#[98, 97]⟩)) := Lib.hid (F8.bk X7.out (by decide))
    have D8 := Lib.hid (F8.dfr D7.out)
    clear E7 X7 D7 F8
    generalize W.heap.size = p at *
    go_wp2_with fail
    refine (e_takeS w w8 _ _ _ E8.out).mono ?_
    rintro e w9 ⟨rfl, E9, F9⟩
    replace E9 := Lib.hid E9
    have X9 : Hid (Boxed w9 b 9 (.string ⟨#[98, 97]⟩)) := Lib.hid (F9.bk X8.out (by decide))
    have D9 := Lib.hid (F9.dfr D8.out)
    clear E8 X8 D8 F9
    generalize w8.heap.size = q at *
    go_wp2_with fail
    refine (e_st E9.out 2 _ _ rfl A5.out.pd (by simp [opTake]) A5.out.s1).mono ?_
    rintro e w10 ⟨rfl, E10, F10⟩
    replace E10 := Lib.hid E10
    have X10 : Hid (Boxed w10 b 9 (.string ⟨#[98, 97]⟩)) := Lib.hid (F10.bk X9.out (by decide))
    have D10 := Lib.hid (F10.dfr D9.out)
    clear E9 X9 D9 F10
    go_wp2_with fail
    refine (e_st E10.out 3 _ _ rfl A5.out.pd (by simp [opTake]) A5.out.s1).mono ?_
    rintro e w11 ⟨rfl, E11, F11⟩
    replace E11 := Lib.hid E11
    have X11 : Hid (Boxed w11 b 9 (.string ⟨#[98, 97]⟩)) := Lib.hid (F11.bk X10.out (by decide))
    have D11 := Lib.hid (F11.dfr D10.out)
    clear E10 X10 D10 F11
    go_wp2_with fail
    refine (e_st E11.out 2 _ _ rfl A5.out.pd (by simp) A5.out.s2).mono ?_
    rintro e w12 ⟨rfl, E12, F12⟩
    replace E12 := Lib.hid E12
    have X12 : Hid (Boxed w12 b 9 (.string ⟨#[98, 97]⟩)) := Lib.hid (F12.bk X11.out (by decide))
    have D12 := Lib.hid (F12.dfr D11.out)
    clear E11 X11 D11 F12
    go_wp2_with fail
    refine (e_st E12.out 3 _ _ rfl A5.out.pd (by simp) A5.out.s3).mono ?_
    rintro e w13 ⟨rfl, E13, F13⟩
    replace E13 := Lib.hid E13
    have X13 : Hid (Boxed w13 b 9 (.string ⟨#[98, 97]⟩)) := Lib.hid (F13.bk X12.out (by decide))
    have D13 := Lib.hid (F13.dfr D12.out)
    clear E12 X12 D12 F13
    go_wp2_with fail
    refine (e_st E13.out 3 _ _ rfl A5.out.pd (by simp) Ab.s4).mono ?_
    rintro e w14 ⟨rfl, E14, F14⟩
    replace E14 := Lib.hid E14
    have X14 : Hid (Boxed w14 b 9 (.string ⟨#[98, 97]⟩)) := Lib.hid (F14.bk X13.out (by decide))
    have D14 := Lib.hid (F14.dfr D13.out)
    clear E13 X13 D13 F14
    go_wp2_with fail
    refine (e_st E14.out 3 _ _ rfl A5.out.pd (by simp) A5.out.s5).mono ?_
    rintro e w15 ⟨rfl, E15, F15⟩
    replace E15 := Lib.hid E15
    have X15 : Hid (Boxed w15 b 9 (.string ⟨#[98, 97]⟩)) := Lib.hid (F15.bk X14.out (by decide))
    have D15 := Lib.hid (F15.dfr D14.out)
    clear E14 X14 D14 F15
    go_wp2_with fail
    refine (e_showS w w15 _ _ _ E15.out 2 _ _ rfl).mono ?_
    rintro e w16 ⟨rfl, E16, F16⟩
    replace E16 := Lib.hid E16
    have X16 : Hid (Boxed w16 b 9 (.string ⟨#[98, 97]⟩)) := Lib.hid (F16.bk X15.out (by decide))
    have D16 := Lib.hid (F16.dfr D15.out)
    clear E15 X15 D15 F16
    go_wp2_with fail
    refine (e_showS w w16 _ _ _ E16.out 3 _ _ rfl).mono ?_
    rintro e w17 ⟨rfl, E17, F17⟩
    replace E17 := Lib.hid E17
    have X17 : Hid (Boxed w17 b 9 (.string ⟨#[98, 97]⟩)) := Lib.hid (F17.bk X16.out (by decide))
    have D17 := Lib.hid (F17.dfr D16.out)
    clear E16 X16 D16 F17
    have hX := X17.out.cell
    have g1 : evS (gotOfS { m5 with top := none } ⟨4, some c2, true, 1⟩) = .string ⟨#[98]⟩ := by simp [gotOfS, evS, A5.out.b, bsb]
    have g2 : evS (gotOfS { m5 with top := none } ⟨4, some c1, true, 1⟩) = .string ⟨#[97]⟩ := by simp [gotOfS, evS, A5.out.a, bsa]
    have g3 : resOf ⟨4, some c2, true, 1⟩ = 1 := rfl
    have g4 : resOf ⟨4, some c1, true, 1⟩ = 1 := rfl
    rw [g1, g2, g3, g4]
    clear g1 g2 g3 g4
    go_wp2_with fail
    refine (e_lenS w w17 _ _ _ E17.out [] rfl (by simp)).mono ?_
    rintro e w18 ⟨rfl, E18, F18⟩
    replace E18 := Lib.hid E18
    have X18 : Hid (Boxed w18 b 9 (.string ⟨#[98, 97]⟩)) := Lib.hid (F18.bk X17.out (by decide))
    have D18 := Lib.hid (F18.dfr D17.out)
    clear E17 X17 D17 F18
    go_wp2_with fail
    refine (e_pendingS w w18 _ _ _ E18.out).mono ?_
    rintro e w19 ⟨rfl, rfl⟩
    have hpd := A5.out.pd
    go_wp2
    have hB := E18.out.bel
    have hK := D18.out
    refine ⟨by simp, .inl ⟨_, _, rfl, run_takeDeferred hK, ?_⟩⟩
    exact ⟨_, results_tmp rfl _ _ _, rfl, hB.trans (belowK_b (w := w) (Nat.le_refl _) w18 D _ _ hwD.out hK rfl rfl)⟩
  case stop =>
    rintro D c pre W _ _ h _
    exact h.elim

end Go.Proofs.Ytokdalilnckkoaa
