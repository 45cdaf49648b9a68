/- The reference's All, walked. -/
import Derived.Test.YtokdalilnckkoaaRefS
namespace Go.Proofs.Ytokdalilnckkoaa
open Go.RowKit Go.Shelf

attribute [local go_sem] Oper.semAt_some

/-- From the index i on, the cells contain these items. -/
def RCh (cs : List (Int × Int)) : Int → List Int → Prop
  | i, [] => i = -1
  | i, x :: r => ∃ (k : Nat) (nx : Int), i = (k : Int) ∧ cs[k]? = some (x, nx) ∧ RCh cs nx r

def sliceLen : Value → Nat
  | .slice _ n _ => n
  | _ => 0

theorem Try.intsz : OneCell Try.prog 34 3 8 := by
  refine ⟨by kernel_rfl, ?_⟩
  obtain ⟨i, hi, hz⟩ := Option.map_eq_some_iff.1 (show (Try.prog.info? 3).map (fun i => (i.zero, i.size, i.bytes)) = some (some (.int .i64 0), 1, 8) by kernel_rfl)
  simp only [Prod.mk.injEq] at hz
  exact ⟨i, _, hi, hz.1, hz.2.1, hz.2.2, rfl⟩

def AllPost (w : World) (xs : List Int) (e : Ending) (w' : World) : Prop :=
  ∃ A c, e = .returned (.slice A xs.length c) ∧ Ow w' w.heap.size 3 (.slice A xs.length c) (xs.map (Value.int .i64)) ∧ Below w.heap.size w w'

structure AllRel (w : World) (f : RF) (xs ys : List Int) (i : Int) (v : Value) (wr : World) : Prop where
  own : Ow wr w.heap.size 3 v (ys.map (Value.int .i64))
  bel : Below w.heap.size w wr
  rest : ∃ zs, xs = ys ++ zs ∧ RCh f.cells i zs

set_option maxRecDepth 100000 in
set_option maxHeartbeats 1000000 in
theorem rall_any (w : World) (B r : Nat) (f : RF) (vc vo : Value) (xs : List Int) (h : Rf w B r f vc vo) (hc : RCh f.cells f.top xs) (hl : xs.length ≤ 1000) : Calls Try.prog 42 #[.pointer (some ⟨r, 0, none⟩)] w (AllPost w xs) := by
  obtain ⟨a0, a1, a2, a3, b0, b1, b2, b3⟩ := h.hd
  have HH := Lib.hid h
  have st : AllRel w f xs [] f.top (.slice none 0 0) w := ⟨Ow.nil _ _ _, Below.refl _ _, xs, rfl, hc⟩
  have ST := Lib.hid st
  clear h hc st
  go_enter Try.func42, Try.ntmps42
  go_wp2
  clear a0 a1 a2 a3 b0 b1 b2 b3
  go_loopw [3, 4] (fun v i wr => ∃ (ys : List Int) (k : Int), i = .int .i64 k ∧ Hid (AllRel w f xs ys k v wr)) (fun v _ _ => xs.length - sliceLen v)
  case atStart => exact ⟨[], f.top, rfl, ST⟩
  case round =>
    clear ST
    obtain ⟨ys, k, rfl, hR⟩ := hrel
    obtain ⟨zs, hxs, hz⟩ := hR.out.rest
    obtain ⟨A, c, hv, _⟩ := hR.out.own.form
    rw [List.length_map] at hv
    subst hv
    cases zs with
    | nil =>
      have hk : k = -1 := hz
      subst hk
      rw [List.append_nil] at hxs
      have HXS := Lib.hid hxs
      clear hxs hz
      go_wp2
      go_ret
      have hx := HXS.out
      subst hx
      exact ⟨A, c, rfl, hR.out.own, hR.out.bel⟩
    | cons x zs =>
      obtain ⟨p, nx, rfl, hp, hr⟩ := hz
      have hW : Rf wr B r f vc vo := HH.out.below hR.out.bel
      obtain ⟨a0, _⟩ := hW.hd
      have hpl : p < f.cells.length := (List.getElem?_eq_some_iff.1 hp).1
      obtain ⟨gc, cc, rfl⟩ : ∃ gc cc, vc = .slice (some ⟨gc, 0, none⟩) f.cells.length cc := by
        rcases hW.cs.2 with ⟨_, h0⟩ | ⟨g, cap, cur, rfl, _⟩
        · omega
        · exact ⟨g, cap, rfl⟩
      obtain ⟨d0, d1, _⟩ := hW.cc hp
      dsimp only at d0 d1
      have hyl : ys.length < 1000 := by rw [hxs, List.length_append, List.length_cons] at hl; omega
      have hsz := hR.out.bel.size
      have hpL : (p : Int) < f.cells.length := by omega
      have HXS := Lib.hid hxs
      replace hp := Lib.hid hp
      replace hr := Lib.hid hr
      replace hW := Lib.hid hW
      clear hxs
      generalize hL : f.cells.length = L at *
      have hL' := Lib.hid hL
      clear hL
      have hO : Hid (Ow wr w.heap.size 3 (.slice A ys.length c) (ys.map (Value.int .i64))) := Lib.hid hR.out.own
      go_wp2_with (at_builtin; refine wpList_app1 (w := wr) Try.intsz rfl (.tmp 19) (.tmp 28) rfl w.heap.size (.slice A ys.length c) (ys.map (Value.int .i64)) (.int .i64 x) rfl rfl hO.out rfl (by rw [List.length_map]; unfold maxLen; omega) (by rw [List.length_map]; omega) hsz ?_)
      intro v' w2 h1 h2 h3 h4
      have hown : Ow w2 w.heap.size 3 v' ((ys ++ [x]).map (Value.int .i64)) := by
        unfold Ow
        simpa using h1
      have hG : Gw wr w2 (.slice A ys.length c) := ⟨h2, h4⟩
      have hb : Below w.heap.size w w2 := hR.out.bel.trans (hG.bel _ hsz (fun b e => (hO.out.lt b e).1))
      have hW2 : Rf w2 B r f (.slice (some ⟨gc, 0, none⟩) L cc) vo := HH.out.below hb
      have hW2' := hW2
      rw [← hL'.out] at hW2'
      obtain ⟨e0, _⟩ := hW2.hd
      obtain ⟨_, e1, _⟩ := hW2'.cc hp.out
      dsimp only at e1
      obtain ⟨A', c', hv', _⟩ := hown.form
      rw [List.length_map, List.length_append, List.length_singleton] at hv'
      subst hv'
      have hN : Hid (AllRel w f xs (ys ++ [x]) nx (.slice A' (ys.length + 1) c') w2) := Lib.hid ⟨hown, hb, zs, by rw [HXS.out]; simp, hr.out⟩
      have hlt : ys.length < xs.length := by rw [HXS.out, List.length_append, List.length_cons]; omega
      clear h1 h2 h3 h4 hown hG hb hW2 hW2' a0 d0 d1 hO hR HXS hW
      go_wp2
      go_roundw
      case rel => exact ⟨_, _, rfl, hN⟩
      case measure => simp [sliceLen]; omega

/-- The stack of the machine is that of the reference. -/
theorem Sim.all {m : Mem Int} {ops : List (Nat × OpS)} {f : RF} {idx : List Nat} (h : Sim m ops f idx) : ∀ {L : List Nat} {p : Option Nat} {i : Int}, Chain m p L → Pos idx p i → RCh f.cells i (L.map m.item)
  | [], p, i, hc, hp => by
    have : p = none := hc
    subst this
    rcases hp with ⟨_, e⟩ | ⟨k, c, _, e, _⟩
    · exact e
    · cases e
  | c :: L, p, i, ⟨hpc, hcm, hr⟩, hp => by
    rcases hp with ⟨e, _⟩ | ⟨k, c', hi, e, hk⟩
    · rw [hpc] at e; cases e
    · rw [hpc] at e
      injection e with e
      subst e
      obtain ⟨nx, e1, e2⟩ := h.cell k c hk
      exact ⟨k, nx, hi, e1, h.all hr e2⟩

end Go.Proofs.Ytokdalilnckkoaa
