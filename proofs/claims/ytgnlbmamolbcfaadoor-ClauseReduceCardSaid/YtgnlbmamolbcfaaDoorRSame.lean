/- The reference's SameAll on equal lists; an argument that is a list of clauses. -/
import Derived.Test.YtgnlbmamolbcfaaDoorRed
import Derived.Test.YtgnlbmamolbcfaaDoorIn
import Derived.Deep.RegionHeld3
set_option linter.unusedVariables false
namespace Go.Proofs.YtgnlbmamolbcfaaDoor
open Go.RowKit Go.Shelf

attribute [local go_sem] Oper.semAt_some

set_option maxRecDepth 100000 in
set_option maxHeartbeats 4000000 in
theorem sameAll_any (w : World) (R S : Option Addr) (n c c2 : Nat) (xs ys : List Cv) (hl : xs.length = n) (hl2 : ys.length = n) (hn : n ≤ maxLen) (hc : Cls w R xs) (hc2 : Cls w S ys) (he : lists xs = lists ys) :
    Calls Tryd.prog 30 #[.slice R n c, .slice S n c2] w fun e w' => e = .returned (.bool true) ∧ Gr w w' := by
  unfold maxLen at hn
  have HL := Lib.hid hl
  have HL2 := Lib.hid hl2
  have HC := Lib.hid hc
  have HC2 := Lib.hid hc2
  have HE := Lib.hid he
  clear hl hl2 hc hc2 he
  have hnn : ((n : Int) != n) = false := by simp
  go_enter Tryd.func30, Tryd.ntmps30
  go_wp2
  go_loopw [5] (fun i wr => ∃ t : Nat, i = .int .i64 t ∧ t ≤ n ∧ Hid (Gr w wr)) (fun i _ => n - (intOf i).toNat)
  case atStart => exact ⟨0, rfl, Nat.zero_le _, Gr.refl w⟩
  case round =>
    obtain ⟨t, rfl, ht, hG⟩ := hrel
    by_cases htn : t < n
    · obtain ⟨x, hx⟩ : ∃ x, xs[t]? = some x := ⟨_, List.getElem?_eq_getElem (by rw [HL.out]; omega)⟩
      obtain ⟨y, hy⟩ : ∃ y, ys[t]? = some y := ⟨_, List.getElem?_eq_getElem (by rw [HL2.out]; omega)⟩
      have hGd : Hid (Gr w wr.drew) := hG.out.no (Fr.drew _ _)
      obtain ⟨ad, rfl, _, d1, lx, lxm, lxc⟩ := HC.out.gr hGd.out t x hx
      obtain ⟨ad2, rfl, _, d2, ly, lym, lyc⟩ := HC2.out.gr hGd.out t y hy
      have d1' : wr.cell? (ad.add t) = some (.slice x.A x.n x.c) := d1
      have d2' : wr.cell? (ad2.add t) = some (.slice y.A y.n y.c) := d2
      have hxy : x.l = y.l := by
        have h1 := lists_at hx
        have h2 := lists_at hy
        rw [HE.out] at h1
        rw [← h1, h2]
      have HSM := Lib.hid (rsame_any wr.drew x.A y.A x.n x.c y.n y.c x.l y.l lx lxm lxc ly lyc)
      rw [eqB_yes hxy] at HSM
      have HSQ : Hid (Calls Tryd.prog 19 #[.slice x.A x.n x.c, .slice y.A y.n y.c] wr.drew fun e w' => e = .returned (.bool true) ∧ Hid (Gr w w') ∧ w'.cell? (ad.add t) = some (.slice x.A x.n x.c) ∧ w'.cell? (ad2.add t) = some (.slice y.A y.n y.c)) := by
        refine HSM.out.mono ?_
        rintro e w' ⟨rfl, G⟩
        obtain ⟨_, e1, _, f1, _⟩ := HC.out.gr (hGd.out.trans G) t x hx
        cases e1
        obtain ⟨_, e2, _, f2, _⟩ := HC2.out.gr (hGd.out.trans G) t y hy
        cases e2
        exact ⟨rfl, Lib.hid (hGd.out.trans G), f1, f2⟩
      clear hx hy lx lxm lxc ly lym lyc hxy HSM d1' d2'
      go_wp2_with fail
      first | (go_region_held3 (fun W => W.cell? (ad.add t) = some (.slice x.A x.n x.c) ∧ W.cell? (ad2.add t) = some (.slice y.A y.n y.c)) (first | go_keep | exact ⟨‹_›, ‹_›⟩) (first | (go_at_call 19; refine HSQ.out.mono ?_; rintro e w5 ⟨rfl, hGV, f1, f2⟩))) | fail
      go_wp2
      go_roundw
      case rel => exact ⟨t + 1, by go_num, by omega, hGV⟩
      case measure => simp [intOf]; omega
    · go_wp2
      go_ret
      exact ⟨rfl, hG.out⟩
theorem open_cls {H : Type} {enc : TypeId × Value → H} {w : World} {base : Nat} {spare : Nat → Bool} {held : Bool} {fuel : Nat} {A : Option Addr} {n c : Nat} {x : DataW H × List MemPlace}
    (h : DataW.trod enc Tryd.prog w base spare held fuel 44 [.slice A n c] = some x) :
    n ≤ maxLen ∧ ∃ l : List Cv, l.length = n ∧ Cls w A l ∧ ∀ v ∈ l, v.A = none → v.n = 0 ∧ v.c = 0 := by
  rcases Go.Deep.open_slice Tryd.underlying44 h with ⟨hcs, _⟩ | ⟨a, len, cap, m, k, D, Pl, hcs, _, hl, hmx, hm, _, hi⟩
  · simp at hcs
    obtain ⟨rfl, rfl, rfl⟩ := hcs
    exact ⟨Nat.zero_le _, [], rfl, (fun i v hv => by simp at hv), fun v hv => by cases hv⟩
  · simp at hcs
    obtain ⟨rfl, rfl, rfl⟩ := hcs
    refine ⟨Nat.le_trans hl hmx, ?_⟩
    have each : ∀ i, i < n → ∃ v : Cv, w.cell? (a.add i) = some (.slice v.A v.n v.c) ∧ v.l.length = v.n ∧ v.n ≤ maxLen ∧ Cs w v.A v.l ∧ (v.A = none → v.n = 0 ∧ v.c = 0) := fun i hin => by
      obtain ⟨cs', h1, h2⟩ := hi i (by rw [hm]; split <;> omega)
      rw [show Tryd.prog.cellsOf 23 = 1 by kernel_rfl, Nat.mul_one] at h1
      obtain ⟨_, hlen, hcell⟩ := World.cells?_some h1
      have h0 := hcell 0 (by omega)
      rw [add_zero] at h0
      match cs', hlen with
      | [u], _ =>
        rcases Go.Deep.open_slice Tryd.underlying23 h2 with ⟨hcs, _⟩ | ⟨a2, len2, cap2, m2, k2, D2, Pl2, hcs, _⟩
        · obtain rfl : u = .slice none 0 0 := by simpa using hcs
          exact ⟨⟨none, 0, 0, []⟩, by simpa using h0, rfl, Nat.zero_le _, Cs.nil, fun _ => ⟨rfl, rfl⟩⟩
        · obtain rfl : u = .slice (some a2) len2 cap2 := by simpa using hcs
          obtain ⟨q1, q2, l, q3, q4⟩ := open_cl Tryd.underlying23 h2
          exact ⟨⟨some a2, len2, cap2, l⟩, by simpa using h0, q3, q2, q4, fun e => by cases e⟩
    have build : ∀ N, N ≤ n → ∃ l : List Cv, l.length = N ∧ ∀ (i : Nat) (v : Cv), l[i]? = some v → w.cell? (a.add i) = some (.slice v.A v.n v.c) ∧ v.l.length = v.n ∧ v.n ≤ maxLen ∧ Cs w v.A v.l ∧ (v.A = none → v.n = 0 ∧ v.c = 0) := fun N => by
      induction N with
      | zero => intro _; exact ⟨[], rfl, fun i v hv => by simp at hv⟩
      | succ N ih =>
        intro hN
        obtain ⟨l, hl, hp⟩ := ih (by omega)
        obtain ⟨v0, hv0⟩ := each N (by omega)
        refine ⟨l ++ [v0], by simp [hl], fun i v hv => ?_⟩
        rcases Nat.lt_or_ge i l.length with h | h
        · rw [List.getElem?_append_left h] at hv
          exact hp i v hv
        · rw [List.getElem?_append_right h] at hv
          have hin : i = N := by
            have := (List.getElem?_eq_some_iff.1 hv).1
            simp at this
            omega
          subst hin
          rw [hl, Nat.sub_self] at hv
          obtain rfl : v0 = v := by simpa using hv
          exact hv0
    obtain ⟨l, hl, hp⟩ := build n (Nat.le_refl _)
    refine ⟨l, hl, fun i v hv => ?_, fun v hv => ?_⟩
    · obtain ⟨p1, p2, p3, p4, _⟩ := hp i v hv
      have hb := World.block_lt_of_cell? w _ p1
      rw [add_blk] at hb
      exact ⟨a, rfl, hb, p1, p2, p3, p4⟩
    · obtain ⟨i, hi⟩ := List.mem_iff_getElem?.1 hv
      exact (hp i v hi).2.2.2.2
end Go.Proofs.YtgnlbmamolbcfaaDoor
