/- Keep of the reference. -/
import Derived.Test.YtnepkpcoglfejaaRefP
set_option linter.unusedVariables false
namespace Go.Proofs.Ytnepkpcoglfejaa
open Go.RowKit Go.Sort Go.Shelf

attribute [local go_sem] Oper.semAt_some

/-- Which items the law keeps. -/
def evn (x : Int × Int) : Bool := x.2.tmod 2 == 0
/-- What holds at the head of a round of Keep. -/
structure Rk (w : World) (A : Option Addr) (l o : List (Int × Int)) (v : Value) (W : World) : Prop where
  row : W.ownsRow w.heap.size 27 2 v o.length (o.flatMap itC)
  rf : Rf W A l
  gr : Gr w W
  hA : ∀ ad, A = some ad → l ≠ [] → ad.block < w.heap.size
theorem Rk.app {w : World} {A : Option Addr} {l : List (Int × Int)} {y : Int × Int} {o : List (Int × Int)} {v v' : Value} {W W' : World} (h : Rk w A l o v W) (hr : W'.ownsRow w.heap.size 27 2 v' (o.length + 1) (o.flatMap itC ++ itC y)) (hF : Fr (fun b => v.ownBlock = some b) W W') : Rk w A l (o ++ [y]) v' W' := by
  refine ⟨?_, ?_, h.gr.step hF fun b _ e => (rw_lt h.row b e).1, h.hA⟩
  · rw [List.length_append, List.flatMap_append]
    simpa using hr
  · intro i z hz
    obtain ⟨ad, cs, rfl, hb, h1, h2⟩ := h.rf i z hz
    have hlt := h.hA ad rfl (fun e => by rw [e] at hz; simp at hz)
    have h9 : W'.heap[ad.block]? = W.heap[ad.block]? := hF.keep _ hb.lt fun e => by have := (rw_lt h.row _ e).1; omega
    have e9 : (ad.add (i * 2)).block = ad.block := add_blk _ _
    exact ⟨ad, cs, rfl, h9.trans hb, (World.cell?_of_block (by rw [e9]; exact h9)).trans h1, (World.cell?_of_block (by show W'.heap[(ad.add (i * 2)).block]? = _; rw [e9]; exact h9)).trans h2⟩
def ke (l : List (Int × Int)) (t : Nat) : List (Int × Int) := (l.take t).filter evn
theorem ke_succ {l : List (Int × Int)} {t : Nat} {y : Int × Int} (h : l[t]? = some y) : ke l (t + 1) = if evn y then ke l t ++ [y] else ke l t := by
  rw [ke, List.take_add_one, h, List.filter_append]
  cases hk : evn y <;> simp [hk, ke]
theorem ke_len (l : List (Int × Int)) (t : Nat) : (ke l t).length ≤ t := Nat.le_trans (List.length_filter_le _ _) (by rw [List.length_take]; omega)

set_option maxRecDepth 100000 in
set_option maxHeartbeats 1000000 in
theorem rkeep_any (w : World) (A : Option Addr) (n c : Nat) (l : List (Int × Int)) (hl : l.length = n) (hn : n ≤ 1000) (hR : Rf w A l) :
    Calls Try.prog 45 #[.slice A n c, .int .i64 2, .int .i64 0] w fun e w' => ∃ v, e = .returned v ∧ w'.ownsRow w.heap.size 27 2 v (l.filter evn).length ((l.filter evn).flatMap itC) ∧ Gr w w' := by
  have h0 : Rk w A l [] (.slice none 0 0) w :=
    ⟨⟨rfl, .inl ⟨rfl, rfl⟩⟩, hR, Gr.refl w, fun ad e hne => by
      obtain ⟨y, l', rfl⟩ := List.exists_cons_of_ne_nil hne
      obtain ⟨ad', cs, h1, h2, _⟩ := hR 0 y rfl
      rw [e] at h1
      cases h1
      exact h2.lt⟩
  have HL := Lib.hid hl
  have H0 := Lib.hid h0
  clear h0 hR hl
  go_enter Try.func45, Try.ntmps45
  go_wp2_with fail
  go_loopw [7, 8] (fun v i wr => ∃ t : Nat, i = .int .i64 t ∧ t ≤ n ∧ Hid (Rk w A l (ke l t) v wr)) (fun _ i _ => n - (intOf i).toNat)
  case atStart => exact ⟨0, rfl, Nat.zero_le _, H0⟩
  case round =>
    obtain ⟨t, rfl, ht, hP⟩ := hrel
    by_cases htn : t < n
    · obtain ⟨y, hy⟩ : ∃ y, l[t]? = some y := ⟨_, List.getElem?_eq_getElem (by rw [HL.out]; omega)⟩
      have HSU := Lib.hid (ke_succ hy)
      obtain ⟨ad, cs, rfl, hb, cy1, cy2⟩ := hP.out.rf t y hy
      obtain ⟨y1, y2⟩ := y
      have hal : (ad.add (t * 2)).block < wr.heap.size := by rw [add_blk]; exact hb.lt
      have hwr : w.heap.size ≤ wr.heap.size := hP.out.gr.size
      have hol := ke_len l t
      clear hy hb
      cases hev : evn (y1, y2)
      · have he : (y2.tmod 2 == 0) = false := hev
        go_wp2
        go_roundw
        case rel => exact ⟨t + 1, by go_num, by omega, by rw [HSU.out, hev]; exact hP⟩
        case measure => simp [intOf]; omega
      · have he : (y2.tmod 2 == 0) = true := hev
        have HRO := Lib.hid hP.out.row
        generalize hol' : (ke l t).length = ol at *
        have HOL := Lib.hid hol'
        clear hol'
        go_wp2_with (at_builtin; refine wpList_appS1 (w := wr) elemR rfl (.tmp 24) (.tmp 29) rfl w.heap.size u7 ol ((ke l t).flatMap itC) #[.int .i64 y1, .int .i64 y2] rfl rfl rfl HRO.out (by intro u hu; simp at hu; rcases hu with rfl | rfl <;> rfl) (by unfold maxLen; omega) (by omega) hwr ?_; intro v8 w8 hr8 hF8 ho8; have hP8 := Lib.hid (hP.out.app (y := (y1, y2)) (by rw [HOL.out]; exact hr8) hF8); clear hr8 hF8 ho8)
        go_roundw
        case rel => exact ⟨t + 1, by go_num, by omega, by rw [HSU.out, hev]; exact hP8⟩
        case measure => simp [intOf]; omega
    · obtain rfl : t = n := by omega
      go_wp2
      go_ret
      have h9 := hP.out.row
      rw [ke, List.take_of_length_le (Nat.le_of_eq HL.out)] at h9
      exact ⟨_, rfl, h9, hP.out.gr⟩
end Go.Proofs.Ytnepkpcoglfejaa
