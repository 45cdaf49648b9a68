/- do: what an operation does; a push and a pop. -/
import Derived.Test.YtnepkpcoglfejaaSame
import Derived.Test.YtnepkpcoglfejaaSeen
import Derived.Test.YtnepkpcoglfejaaClone
set_option linter.unusedVariables false
namespace Go.Proofs.Ytnepkpcoglfejaa
open Go.RowKit Go.Sort Go.Shelf

attribute [local go_sem] Oper.semAt_some

theorem ins_insK {x : Int × Int} {N : Int} : ∀ {E : List ((Int × Int) × Int)}, (∀ e ∈ E, e.2 < N) → (ins (bfr ltA) (x, N) E).map (·.1) = insK x (E.map (·.1))
  | [], _ => rfl
  | e :: E, h => by
    have h1 := h e (List.mem_cons_self ..)
    have h2 : bfr ltA (x, N) e = decide (x.1 < e.1.1) := by
      simp only [bfr, ltA]
      have : decide (N < e.2) = false := by simp; omega
      rw [this]
      simp
    rw [ins, h2, List.map_cons, insK]
    by_cases h3 : x.1 < e.1.1
    · simp [h3]
    · simp only [h3, decide_false, Bool.false_eq_true, if_false, List.map_cons]
      rw [ins_insK fun y hy => h y (List.mem_cons_of_mem _ hy)]
theorem EnA.hi {w0 w : World} {p N : Nat} {hv : Value} {E : List ((Int × Int) × Int)} (h : EnA w0 w p hv E N) : ∀ e ∈ E, e.2 < (N : Int) := by
  obtain ⟨hs, _, h2⟩ := h.wl
  exact h2.hi

/-- The list of the reference after an operation. -/
def doP (l : List (Int × Int)) (kd key id : Int) : List (Int × Int) :=
  if kd % 7 = 0 ∨ kd % 7 = 1 ∨ kd % 7 = 2 then insK (key, id) l else if kd % 7 = 3 then l.tail else if kd % 7 = 5 then l.filter evn else l
/-- A list and its reference. -/
structure Dn (w0 w : World) (p : Nat) (hv : Value) (A : Option Addr) (n c : Nat) (l : List (Int × Int)) (N : Nat) : Prop where
  en : ∃ E, EnA w0 w p hv E N ∧ E.map (·.1) = l
  rf : Rf w A l
  len : l.length = n
  cap : n ≤ c
section
variable {w0 w w' : World} {p n c N : Nat} {hv : Value} {A : Option Addr} {l : List (Int × Int)}
theorem Dn.no (h : Dn w0 w p hv A n c l N) (hF : Fr (fun _ => False) w w') : Dn w0 w' p hv A n c l N := by
  obtain ⟨E, h1, h2⟩ := h.en
  exact ⟨⟨E, h1.no hF, h2⟩, h.rf.no hF, h.len, h.cap⟩
theorem Dn.gr (h : Dn w0 w p hv A n c l N) : Gr w0 w := by
  obtain ⟨E, h1, h2⟩ := h.en
  exact h1.gr
end
/-- What do leaves. -/
def DoR (w0 w : World) (p : Nat) (hv : Value) (n : Nat) (l' : List (Int × Int)) (N : Nat) (e : Ending) (w' : World) : Prop :=
  ∃ A' n' c' hv' N', e = .returned (.tuple #[.slice A' n' c', .bool true]) ∧ Dn w0 w' p hv' A' n' c' l' N' ∧ n' ≤ n + 1 ∧ N' ≤ N + 1 ∧ (hv'.ownBlock = hv.ownBlock ∨ ∀ b, hv'.ownBlock = some b → w.heap.size ≤ b) ∧ Fr (Lb p hv) w w'

set_option maxRecDepth 100000 in
set_option maxHeartbeats 2000000 in
theorem do_push {w0 w : World} {p n c N : Nat} {hv : Value} {A : Option Addr} {l : List (Int × Int)} (h : Dn w0 w p hv A n c l N) (hn : n ≤ 900) (hN : N ≤ 900) (kd key id : Int) (hk : 0 ≤ kd) (hk2 : kd ≤ 255) (hr : kd % 7 = 0 ∨ kd % 7 = 1 ∨ kd % 7 = 2) :
    Calls Try.prog 24 #[.pointer (some ⟨p, 0, none⟩), .slice A n c, .agg #[.int .u8 kd, .int .i64 key], .int .i64 id] w (DoR w0 w p hv n (insK (key, id) l) N) := by
  obtain ⟨E, hE, rfl⟩ := h.en
  have hlen := h.len
  rw [List.length_map] at hlen
  have F1 : Fr (fun _ => False) w ((w.alloc (.cells #[.int .u8 kd, .int .i64 key] 51)).alloc (.cells #[.int .i64 key, .int .i64 id] 27)) := (Fr.alloc _ _ _).trans (Fr.alloc _ _ _)
  have E1 := hE.no F1
  have HP := Lib.hid (e_pushA E1 (key, id) (by omega) (by omega))
  have hs1 : ((w.alloc (.cells #[.int .u8 kd, .int .i64 key] 51)).alloc (.cells #[.int .i64 key, .int .i64 id] 27)).heap.size = w.heap.size + 1 + 1 := by simp
  rw [hs1] at HP
  have B10 : Bk ((w.alloc (.cells #[.int .u8 kd, .int .i64 key] 51)).alloc (.cells #[.int .i64 key, .int .i64 id] 27)) (w.heap.size + 1) 27 #[.int .i64 key, .int .i64 id] := by
    have := Bk.made (w.alloc (.cells #[.int .u8 kd, .int .i64 key] 51)) 27 #[.int .i64 key, .int .i64 id]
    rwa [World.size_alloc] at this
  have HNX : Hid (∀ (w4 : World) (hv' : Value), EnA w0 w4 p hv' (ins (bfr ltA) ((key, id), (N : Int)) E) (N + 1) → Fr (Lb p hv) ((w.alloc (.cells #[.int .u8 kd, .int .i64 key] 51)).alloc (.cells #[.int .i64 key, .int .i64 id] 27)) w4 → Bk w4 (w.heap.size + 1) 27 #[.int .i64 key, .int .i64 id] ∧ Rf w4 A (E.map (·.1)) ∧ Fr (Lb p hv) w w4) := fun w4 hv' h1 h2 => ⟨h2.bk B10 (fun hb => by rcases E1.ty hb B10 with e | e <;> cases e), (h.rf.no F1).lb E1 h2, (F1.wide fun _ _ h => h.elim).trans h2⟩
  have HH := Lib.hid h
  have HE := Lib.hid hE
  have HLN := Lib.hid hlen
  clear h hE E1 hlen hs1 B10 F1
  rcases hr with h0 | h0 | h0
  all_goals
    go_enter Try.func24, Try.ntmps24
    go_wp2_with fail
    refine HP.out.mono ?_
    rintro e w4 ⟨rfl, hv', E4, ho4, F4⟩
    obtain ⟨b4, R4, F5⟩ := HNX.out w4 hv' E4 F4
    have c41 : w4.cell? ⟨w.heap.size + 1, 0, none⟩ = some (.int .i64 key) := (b4.cell 0).trans rfl
    have c42 : w4.cell? ⟨w.heap.size + 1, 1, none⟩ = some (.int .i64 id) := (b4.cell 1).trans rfl
    have hb4 : w.heap.size + 1 < w4.heap.size := b4.lt
    have HR := Lib.hid (rpush_any w4 A n c (E.map (·.1)) (key, id) (by rw [List.length_map]; exact HLN.out) (by omega) R4)
    replace E4 := Lib.hid E4
    replace F5 := Lib.hid F5
    replace ho4 := Lib.hid ho4
    clear b4 R4 F4 HP HNX
    go_wp2_with fail
    refine HR.out.mono ?_
    rintro e w5 ⟨v5, rfl, hr5, G5⟩
    obtain ⟨A5, c5, hv5⟩ := rw_form hr5
    subst hv5
    have H5 := Lib.hid hr5
    replace G5 := Lib.hid G5
    clear hr5 HR
    go_wp2
    go_returns
    refine ⟨A5, n + 1, c5, hv', N + 1, rfl, ⟨⟨_, E4.out.no G5.out.fr, ins_insK HE.out.hi⟩, Rf.own H5.out, ?_, ?_⟩, Nat.le_refl _, Nat.le_refl _, ?_, F5.out.trans (G5.out.fr.wide fun _ _ h => h.elim)⟩
    · rw [insK_len, List.length_map, HLN.out]
    · obtain ⟨_, ⟨_, h9⟩ | ⟨g, cap, cur, e9, _, _, h9, _⟩⟩ := H5.out
      · omega
      · injection e9 with _ _ e9
        rw [e9]
        exact h9
    · exact ho4.out.imp_right fun h b e => by have := h b e; omega
end Go.Proofs.Ytnepkpcoglfejaa
