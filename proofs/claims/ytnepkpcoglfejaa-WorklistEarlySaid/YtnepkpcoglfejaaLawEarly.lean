/- WorklistEarly: the walk. -/
import Derived.Test.YtnepkpcoglfejaaSame
import Derived.Test.YtnepkpcoglfejaaSortsP
import Derived.Lib.MinMax
set_option linter.unusedVariables false
namespace Go.Proofs.Ytnepkpcoglfejaa
open Go.RowKit Go.Sort Go.Shelf

attribute [local go_sem] Oper.semAt_some

theorem ins_insK {x : Int × Int} {N : Int} : ∀ {E : List ((Int × Int) × Int)}, (∀ e ∈ E, e.2 < N) → (ins (bfr ltA) (x, N) E).map (·.1) = insK x (E.map (·.1))
  | [], _ => rfl
  | e :: E, h => by
    have h1 := h e (List.mem_cons_self ..)
    have h2 : bfr ltA (x, N) e = decide (x.1 < e.1.1) := by
      simp only [bfr, ltA]
      have : decide (N < e.2) = false := by simp; omega
      rw [this]
      simp
    rw [ins, h2, List.map_cons, insK]
    by_cases h3 : x.1 < e.1.1
    · simp [h3]
    · simp only [h3, decide_false, Bool.false_eq_true, if_false, List.map_cons]
      rw [ins_insK fun y hy => h y (List.mem_cons_of_mem _ hy)]
theorem EnA.hi {w0 w : World} {p N : Nat} {hv : Value} {E : List ((Int × Int) × Int)} (h : EnA w0 w p hv E N) : ∀ e ∈ E, e.2 < (N : Int) := by
  obtain ⟨hs, _, h2⟩ := h.wl
  exact h2.hi

/-- What holds at the head of a round of the loop over the keys. -/
structure Ea (w0 w : World) (p b3 b4 b6 : Nat) (hv : Value) (A : Option Addr) (c : Nat) (n : Int) (E : List ((Int × Int) × Int)) (t : Nat) : Prop where
  en : EnA w0 w p hv E t
  x3 : Bk w b3 3 #[.int .i64 n]
  x4 : Bk w b4 4 #[.bool false]
  x6 : Bk w b6 42 #[.slice A t c]
  rf : Rf w A (E.map (·.1))
  len : E.length = t
  h6 : w0.heap.size ≤ b6
section
variable {w0 w w' : World} {p b3 b4 b6 c t : Nat} {hv hv' : Value} {A : Option Addr} {n : Int} {E : List ((Int × Int) × Int)} {x : Int × Int}
theorem Ea.push (h : Ea w0 w p b3 b4 b6 hv A c n E t) (hE : EnA w0 w' p hv' (ins (bfr ltA) (x, (t : Int)) E) (t + 1)) (hF : Fr (Lb p hv) w w') :
    Bk w' b3 3 #[.int .i64 n] ∧ Bk w' b4 4 #[.bool false] ∧ Bk w' b6 42 #[.slice A t c] ∧ Rf w' A (E.map (·.1)) := by
  have hne : ∀ {b ty : Nat} {cs : Array Value}, Bk w b ty cs → ty ≠ 71 → ty ≠ 73 → ¬ Lb p hv b := fun hb h1 h2 hl => by rcases h.en.ty hl hb with e | e <;> contradiction
  exact ⟨hF.bk h.x3 (hne h.x3 (by decide) (by decide)), hF.bk h.x4 (hne h.x4 (by decide) (by decide)), hF.bk h.x6 (hne h.x6 (by decide) (by decide)), h.rf.lb h.en hF⟩
theorem Ea.next {w'' : World} {A' : Option Addr} {c' : Nat} (h : Ea w0 w p b3 b4 b6 hv A c n E t) (hE : EnA w0 w' p hv' (ins (bfr ltA) (x, (t : Int)) E) (t + 1)) (hF : Fr (Lb p hv) w w') (hr : w''.ownsRow w'.heap.size 27 2 (.slice A' (t + 1) c') (t + 1) ((insK x (E.map (·.1))).flatMap itC)) (hG : Gr w' w'') :
    Ea w0 (w''.setCell ⟨b6, 0, none⟩ (.slice A' (t + 1) c')) p b3 b4 b6 hv' A' c' n (ins (bfr ltA) (x, (t : Int)) E) (t + 1) := by
  obtain ⟨y3, y4, y6, yr⟩ := h.push hE hF
  have z3 := hG.fr.bk y3 id
  have z4 := hG.fr.bk y4 id
  have z6 := hG.fr.bk y6 id
  have E2 := hE.no hG.fr
  have F9 : Fr (fun b => b = b6) w'' (w''.setCell ⟨b6, 0, none⟩ (.slice A' (t + 1) c')) := Fr.set _ _ _ rfl
  refine ⟨E2.fr F9 (fun b _ e => by rw [e]; exact h.h6) (fun b hb e => ?_), F9.bk z3 (Bk.ne z3 z6 (by decide)), F9.bk z4 (Bk.ne z4 z6 (by decide)), Bk.put z6 0 _, ?_, ?_, h.h6⟩
  · subst e
    rcases E2.ty hb z6 with e | e <;> cases e
  · rw [ins_insK h.en.hi]
    exact (Rf.own hr).fr F9 fun b cs hb => Bk.ne hb z6 (by decide)
  · rw [(ins_perm _ _).length_eq, List.length_cons, h.len]
end

theorem EnA.grown {w0 W W' : World} {p N B : Nat} {hv : Value} {E : List ((Int × Int) × Int)} {row : Option Nat} (h : EnA w0 W p hv E N) (hB : w0.heap.size ≤ B) (hg : W.grownBy W' row) (hr : ∀ r, row = some r → B ≤ r ∧ ∃ o : Obj, W.heap[r]? = some o ∧ o.isCells = false) : EnA w0 W' p hv E N := by
  have hr' : ∀ r, row = some r → ∃ o : Obj, W.heap[r]? = some o ∧ o.isCells = false := fun r e => (hr r e).2
  obtain ⟨hs, h1, h2⟩ := h.wl
  refine ⟨⟨hs, ⟨bk_own h1.hd hg hr', rw_keep h1.row fun b e => ?_⟩, h2⟩, gr_own h.gr hB hg hr, h.hp⟩
  obtain ⟨cur, hb⟩ := rw_bk h1.row b e
  exact (bk_own hb hg hr').trans hb.symm

/-- What holds at the head of a round of the loop over the items: k of them were seen. -/
structure Eb (w0 w : World) (p b3 b4 b6 b9 : Nat) (hv : Value) (A : Option Addr) (c : Nat) (n : Int) (E : List ((Int × Int) × Int)) (t k : Nat) : Prop extends Ea w0 w p b3 b4 b6 hv A c n E t where
  x9 : Bk w b9 3 #[.int .i64 k]
  h9 : w0.heap.size ≤ b9
  n9 : b9 ≠ b3
section
variable {w0 W W' : World} {p b3 b4 b6 b9 c t k B : Nat} {hv : Value} {A : Option Addr} {n : Int} {E : List ((Int × Int) × Int)} {row : Option Nat}
theorem Eb.grown (h : Eb w0 W p b3 b4 b6 b9 hv A c n E t k) (hB : w0.heap.size ≤ B) (hg : W.grownBy W' row) (hr : ∀ r, row = some r → B ≤ r ∧ ∃ o : Obj, W.heap[r]? = some o ∧ o.isCells = false) : Eb w0 W' p b3 b4 b6 b9 hv A c n E t k := by
  have hr' : ∀ r, row = some r → ∃ o : Obj, W.heap[r]? = some o ∧ o.isCells = false := fun r e => (hr r e).2
  exact ⟨⟨h.en.grown hB hg hr, bk_own h.x3 hg hr', bk_own h.x4 hg hr', bk_own h.x6 hg hr', h.rf.grown hg hr', h.len, h.h6⟩, bk_own h.x9 hg hr', h.h9, h.n9⟩
theorem Eb.no (h : Eb w0 W p b3 b4 b6 b9 hv A c n E t k) (hF : Fr (fun _ => False) W W') : Eb w0 W' p b3 b4 b6 b9 hv A c n E t k :=
  ⟨⟨h.en.no hF, hF.bk h.x3 id, hF.bk h.x4 id, hF.bk h.x6 id, h.rf.no hF, h.len, h.h6⟩, hF.bk h.x9 id, h.h9, h.n9⟩
theorem Eb.next (h : Eb w0 W p b3 b4 b6 b9 hv A c n E t k) : Eb w0 (W.setCell ⟨b9, 0, none⟩ (.int .i64 (k + 1))) p b3 b4 b6 b9 hv A c n E t (k + 1) := by
  have hF : Fr (fun b => b = b9) W (W.setCell ⟨b9, 0, none⟩ (.int .i64 (k + 1))) := Fr.set _ _ _ rfl
  have hx := Bk.put h.x9 0 (.int .i64 (k + 1))
  refine ⟨⟨h.en.fr hF (fun b _ e => by rw [e]; exact h.h9) (fun b hb e => ?_), hF.bk h.x3 fun e => h.n9 e.symm, hF.bk h.x4 (Bk.ne h.x4 h.x9 (by decide)), hF.bk h.x6 (Bk.ne h.x6 h.x9 (by decide)), h.rf.fr hF (fun b cs hb => Bk.ne hb h.x9 (by decide)), h.len, h.h6⟩, ?_, h.h9, h.n9⟩
  · subst e
    rcases h.en.ty hb h.x9 with e | e <;> cases e
  · simpa [Bk] using hx
end

set_option maxRecDepth 100000 in
set_option maxHeartbeats 4000000 in
theorem law_early (A0 : Option Addr) (n c : Nat) (m : Int) (ks : List Int) (w : World) (hn : ks.length = n) (hc : n ≤ c) (hs : Sees w w.heap.size A0 (ks.map (Value.int .i64))) :
    Calls Try.prog 5 #[.slice A0 n c, .int .i64 m] w fun e w' => e = .returned (.bool true) ∧ Below w.heap.size w w' := by
  have HS := Lib.hid hs
  have HN := Lib.hid hn
  clear hs hn
  refine calls_of_wp_marks Try.func5 rfl ?_
  simp only [Try.ntmps5, List.size_toArray, List.length_cons, List.length_nil, Nat.reduceAdd, Nat.reduceSub, Array.replicate_succ, Array.replicate_zero, List.push_toArray, List.append_toArray, List.nil_append, List.cons_append]
  go_wp2_with fail
  refine (awake_any _).mono ?_
  rintro e w1 ⟨rfl, hb1⟩
  have G0 := ((Gr.refl w).alloc (.cells #[.int .i64 m] 3)).alloc (.cells #[.bool false] 4)
  have X3 : Bk w1 w.heap.size 3 #[.int .i64 m] := Bk.below ((Bk.made _ _ _).alloc _) hb1 (by simp; omega)
  have X4 : Bk w1 (w.heap.size + 1) 4 #[.bool false] := by
    have := Bk.made (w.alloc (.cells #[.int .i64 m] 3)) 4 #[.bool false]
    rw [World.size_alloc] at this
    exact Bk.below this hb1 (by simp)
  have G1 : Gr w w1 := G0.then hb1
  have c3 : w1.cell? ⟨w.heap.size, 0, none⟩ = some (.int .i64 m) := (X3.cell 0).trans rfl
  have c4 : w1.cell? ⟨w.heap.size + 1, 0, none⟩ = some (.bool false) := (X4.cell 0).trans rfl
  have f4 := X4.frozen 0
  have hl4 : w.heap.size + 1 < w1.heap.size := X4.lt
  replace X3 := Lib.hid X3
  replace X4 := Lib.hid X4
  replace G1 := Lib.hid G1
  clear hb1 G0
  have HEX : Hid (∀ W : World, W = w1 → ∃ v, (results Try.f5 #[]).run Try.prog W = .ok v W → True) := fun _ _ => ⟨.bool true, fun _ => trivial⟩
  clear HEX
  by_cases h60 : 60 < n
  · go_wp2
    have hc4 := World.cell?_setCell_same' w1 ⟨w.heap.size + 1, 0, none⟩ (.bool true) (by rw [c4]; rfl)
    exact ⟨.bool true, by simp [results, go_sem, hc4], rfl, (G1.out.set (p := ⟨w.heap.size + 1, 0, none⟩) (by show w.heap.size ≤ w.heap.size + 1; omega) _).below⟩
  by_cases hm0 : m < 0
  · go_wp2
    have hc4 := World.cell?_setCell_same' w1 ⟨w.heap.size + 1, 0, none⟩ (.bool true) (by rw [c4]; rfl)
    exact ⟨.bool true, by simp [results, go_sem, hc4], rfl, (G1.out.set (p := ⟨w.heap.size + 1, 0, none⟩) (by show w.heap.size ≤ w.heap.size + 1; omega) _).below⟩
  go_wp2_with fail
  refine (e_newA G1.out).mono ?_
  rintro e w2 ⟨rfl, E2, F2⟩
  have hw1 := G1.out.size
  have st : Ea w (w2.alloc (.cells #[.slice none 0 0] 42)) w1.heap.size w.heap.size (w.heap.size + 1) w2.heap.size (.slice none 0 0) none 0 m [] 0 := ⟨E2.alloc _, (F2.bk X3.out id).alloc _, (F2.bk X4.out id).alloc _, Bk.made _ _ _, Rf.nil, rfl, E2.gr.size⟩
  replace st := Lib.hid st
  clear F2 G1 E2 X3 X4 c3 c4 f4
  generalize w1.heap.size = p at *
  go_wp2_with fail
  generalize w2.heap.size = b6 at *
  generalize w2.alloc (.cells #[.slice none 0 0] 42) = w5 at *
  go_loopw [23] (fun i wr => ∃ (t : Nat) (hv : Value) (A : Option Addr) (c' : Nat), i = .int .i64 t ∧ t ≤ n ∧ Hid (Ea w wr p w.heap.size (w.heap.size + 1) b6 hv A c' m (ent ks t) t)) (fun i _ => n - (intOf i).toNat)
  case atStart => exact ⟨0, _, _, _, rfl, Nat.zero_le _, st⟩
  case round =>
    obtain ⟨t, hv, A, c', rfl, ht, hI⟩ := hrel
    by_cases htn : t < n
    · obtain ⟨k, hk⟩ : ∃ k, ks[t]? = some k := ⟨_, List.getElem?_eq_getElem (by rw [HN.out]; omega)⟩
      obtain ⟨ad, rfl, hab, hac⟩ := HS.out t (.int .i64 k) (by rw [List.getElem?_map, hk]; rfl)
      have cx : wr.cell? (ad.add t) = some (.int .i64 k) := (World.cell?_of_block (hI.out.en.gr.below.block _ (by rw [add_blk]; exact hab))).trans hac
      have hP := e_pushA hI.out.en (k, (t : Int)) (by rw [ent_len]; omega) (by omega)
      have hg : ks.getD t 0 = k := by rw [List.getD_eq_getElem?_getD, hk]; rfl
      have HEN : Hid (ent ks (t + 1) = ins (bfr ltA) ((k, (t : Int)), (t : Int)) (ent ks t)) := by rw [ent, hg]; exact rfl
      have HP := Lib.hid hP
      clear hP hk hac hg
      go_wp2_with fail
      refine HP.out.mono ?_
      rintro e w3 ⟨rfl, hv', E3, _, F3⟩
      obtain ⟨y3, y4, y6, yr⟩ := hI.out.push E3 F3
      have c6 : w3.cell? ⟨b6, 0, none⟩ = some (.slice A t c') := (y6.cell 0).trans rfl
      have HR := Lib.hid (rpush_any w3 A t c' ((ent ks t).map (·.1)) (k, (t : Int)) (by rw [List.length_map, ent_len]) (by omega) yr)
      have HNX : Hid (∀ (A' : Option Addr) (c9 : Nat) (w9 : World), w9.ownsRow w3.heap.size 27 2 (.slice A' (t + 1) c9) (t + 1) ((insK (k, (t : Int)) ((ent ks t).map (·.1))).flatMap itC) → Gr w3 w9 → Bk w9 b6 42 #[.slice A t c'] ∧ Ea w (w9.setCell ⟨b6, 0, none⟩ (.slice A' (t + 1) c9)) p w.heap.size (w.heap.size + 1) b6 hv' A' c9 m (ent ks (t + 1)) (t + 1)) := fun A' c9 w9 h1 h2 => ⟨h2.fr.bk y6 id, by rw [HEN.out]; exact hI.out.next E3 F3 h1 h2⟩
      clear E3 F3 y3 y4 y6 yr HP
      go_wp2_with fail
      refine HR.out.mono ?_
      rintro e w4 ⟨v4, rfl, hr4, hG4⟩
      obtain ⟨A4, c4, hv4⟩ := rw_form hr4
      subst hv4
      obtain ⟨k6, hN4⟩ := HNX.out A4 c4 w4 hr4 hG4
      have d6 : w4.cell? ⟨b6, 0, none⟩ = some (.slice A t c') := (k6.cell 0).trans rfl
      have f6 := k6.frozen 0
      replace hN4 := Lib.hid hN4
      clear hr4 hG4 k6 HR HNX c6
      go_wp2
      go_roundw
      case rel => exact ⟨t + 1, hv', A4, c4, by go_num, by omega, hN4⟩
      case measure => simp [intOf]; omega
    · obtain rfl : t = n := by omega
      go_wp2_with fail
      refine (allA _ _).mono ?_
      rintro e w6 ⟨rfl, rfl⟩
      go_wp2_with fail
      have hcn := cell_new_l (wr.alloc (.cells #[.int .i64 0] 3)) (.pointer (some ⟨p, 0, none⟩)) 24
      rw [World.size_alloc] at hcn
      have F4 : Fr (fun _ => False) wr ((wr.alloc (.cells #[.int .i64 0] 3)).alloc (.cells #[.pointer (some ⟨p, 0, none⟩)] 24)) := (Fr.alloc _ _ _).trans (Fr.alloc _ _ _)
      have hwr := hI.out.en.gr.size
      have h3l := hI.out.x3.lt
      have st2 : Eb w ((wr.alloc (.cells #[.int .i64 0] 3)).alloc (.cells #[.pointer (some ⟨p, 0, none⟩)] 24)) p w.heap.size (w.heap.size + 1) b6 wr.heap.size hv A c' m (ent ks t) t 0 :=
        ⟨⟨hI.out.en.no F4, F4.bk hI.out.x3 id, F4.bk hI.out.x4 id, F4.bk hI.out.x6 id, hI.out.rf.no F4, hI.out.len, hI.out.h6⟩, (Bk.made _ _ _).alloc _, hwr, by omega⟩
      have hsq := all_stopsA lessA 8 (by decide) (wr.heap.size + 1) p _ t hv (ent ks t) (fun b => b = wr.heap.size) _ (by intro b e; rw [e]; simp; omega) (by simp) hcn.1 st2.en.wl (fun _ _ => trivial) (by rw [ent_len]; omega)
      have hxl : Hid (((ent ks t).map (·.1)).length = t) := by rw [List.length_map, ent_len]; exact rfl
      rw [ent_len] at hsq
      generalize hxs : (ent ks t).map (·.1) = xs at *
      have HXS := Lib.hid hxs
      clear hxs
      refine wpIn_wide.1 (wpIn_rangeFunc_ownH (F := Fence.wide) (n := 9) rfl (by decide) (gf := 43) (lb := #[.pointer (some ⟨wr.heap.size + 1, 0, none⟩)]) rfl trivial (enters_of Try.func43 (by kernel_rfl) rfl)
        hsq Ky.trans Ky.put (Below.refl _ _) (fun _ => rfl)
        (fun pre W => Eb w W p w.heap.size (w.heap.size + 1) b6 wr.heap.size hv A c' m (ent ks t) t pre.length ∧ (pre <+: xs ∧ (pre.length : Int) ≤ m))
        (fun cd pre W => (¬ pre <+: xs) ∨ (cd = .exit 2 ∧ ∃ k : Nat, Eb w W p w.heap.size (w.heap.size + 1) b6 wr.heap.size hv A c' m (ent ks t) t k ∧ (k : Int) = m ∧ k < t))
        (fun s W W' row hs hg hr => ⟨hs.1.grown (by simp; omega) hg hr, hs.2⟩)
        (fun cd s W W' row hs hg hr => hs.imp_right fun ⟨h1, k, h2, h3⟩ => ⟨h1, k, h2.grown (by simp; omega) hg hr, h3⟩)
        ⟨st2, List.nil_prefix, by simp; omega⟩
        (fun x a' W => ∃ q : Nat, a' = { tmps := #[.slice A0 t c, .int .i64 m, undef, .pointer (some ⟨w.heap.size, 0, none⟩), .pointer (some ⟨w.heap.size + 1, 0, none⟩), .pointer (some ⟨p, 0, none⟩), .pointer (some ⟨b6, 0, none⟩), u7, u8, .pointer (some ⟨wr.heap.size, 0, none⟩), .pointer (some ⟨q, 0, none⟩), .bool true, .bool false, .slice A0 t c, .int .i64 t, .bool (decide ((60 : Int) < t)), .bool (decide ((60 : Int) < t)), .int .i64 m, .bool (decide (m < 0)), .bool (decide ((60 : Int) < t) || decide (m < 0)), .pointer (some ⟨p, 0, none⟩), .slice A0 t c, .int .i64 t, .int .i64 t, .bool false, u25, u26, u27, u28, u29, u30, u31, u32, u33, u34, u35, u36, u37, u38, u39, .pointer (some ⟨p, 0, none⟩), .func (.func 43) #[] #[.pointer (some ⟨wr.heap.size + 1, 0, none⟩)], .agg #[.int .i64 x.1, .int .i64 x.2], undef, undef, undef, undef, undef, undef, undef, undef, undef, undef, undef, undef, undef, undef, undef, undef, undef, undef, undef, undef, undef, undef, undef, undef, undef, undef, undef, undef], defers := [] } ∧ Bk W q 27 #[.int .i64 x.1, .int .i64 x.2])
        (fun x a' _ W W' row hs hg hr => by
          obtain ⟨q, h1, h2⟩ := hs
          exact ⟨q, h1, bk_own h2 hg (fun r e => (hr r e).2)⟩)
        ?assign ?body ?done ?stop)
      case assign =>
        intro l pre x W K hI hK
        have hI2 := hI.1.no (Fr.alloc _ W (.cells #[.int .i64 x.1, .int .i64 x.2] 27))
        have hK2 := hK _ _ ((KeepsOthers.alloc W (.cells #[.int .i64 x.1, .int .i64 x.2] 27)).from _) (Ky.of (Fr.alloc _ _ _)) ⟨hI2, hI.2⟩ ⟨W.heap.size, rfl, Bk.made _ _ _⟩
        clear st st2 hsq hcn F4
        gi_wp2
        simpa using hK2
      case body =>
        rintro l pre ⟨x1, x2⟩ a' W _ _ ⟨hJ, hpre, hpm⟩ ⟨q, rfl, hq⟩ hlt
        clear st st2 hsq hcn F4
        have c3 : W.cell? ⟨w.heap.size, 0, none⟩ = some (.int .i64 m) := (hJ.x3.cell 0).trans rfl
        have c4 : W.cell? ⟨w.heap.size + 1, 0, none⟩ = some (.bool false) := (hJ.x4.cell 0).trans rfl
        have f4 := hJ.x4.frozen 0
        have c6 : W.cell? ⟨b6, 0, none⟩ = some (.slice A t c') := (hJ.x6.cell 0).trans rfl
        have c9 : W.cell? ⟨wr.heap.size, 0, none⟩ = some (.int .i64 pre.length) := (hJ.x9.cell 0).trans rfl
        have f9 := hJ.x9.frozen 0
        by_cases hkm : (pre.length : Int) = m
        · have hd : ((pre.length : Int) == m) = true := by simpa using hkm
          have HI : Hid (Eb w W p w.heap.size (w.heap.size + 1) b6 wr.heap.size hv A c' m (ent ks t) t pre.length) := hJ
          have HKM := Lib.hid hkm
          clear hJ hq hkm
          gi_wp2
          exact ⟨KeepsFrom.refl _ _, .inr ⟨rfl, pre.length, HI.out, HKM.out, hlt⟩⟩
        · have hd : ((pre.length : Int) == m) = false := by simpa using hkm
          have hpm' : ((pre.length + 1 : Nat) : Int) ≤ m := by omega
          have q1 : W.cell? ⟨q, 0, none⟩ = some (.int .i64 x1) := (hq.cell 0).trans rfl
          have q2 : W.cell? ⟨q, 1, none⟩ = some (.int .i64 x2) := (hq.cell 1).trans rfl
          obtain ⟨y, hy⟩ : ∃ y, xs[pre.length]? = some y := ⟨_, List.getElem?_eq_getElem (by rw [hxl.out]; exact hlt)⟩
          obtain ⟨ad, cs, hA, hb, d1, d2⟩ := hJ.rf pre.length y (by rw [HXS.out]; exact hy)
          subst hA
          obtain ⟨y1, y2⟩ := y
          have hlt' : decide (t ≤ pre.length) = false := by simp; omega
          by_cases hxy : x1 = y1 ∧ x2 = y2
          · obtain ⟨rfl, rfl⟩ := hxy
            have HN9 := Lib.hid (hJ.no (Fr.drew _ W)).next
            have HPR : Hid ((pre ++ [(x1, x2)]) <+: xs) := by
              obtain ⟨r, hr⟩ := hpre
              rw [← hr, List.getElem?_append_right (Nat.le_refl _), Nat.sub_self] at hy
              cases r with
              | nil => cases hy
              | cons z r =>
                injection hy with hy
                subst hy
                exact ⟨r, by rw [← hr, List.append_assoc]; rfl⟩
            clear hJ hy hb hq hpre
            gi_wp2_with fail
            gi_region
            all_goals (gi_wp2; exact ⟨((KeepsOthers.of_drew W).trans (KeepsOthers.setCell _ _ _)).from _, (Ky.of (Fr.drew _ W)).trans (Ky.set _ _ _ rfl), by rw [List.length_append]; exact HN9.out, HPR.out, by rw [List.length_append]; exact hpm'⟩)
          · have HB := Lib.hid (not_pre (x := (x1, x2)) (show xs[pre.length]? ≠ some (x1, x2) by rw [hy]; exact fun e => hxy (by injection e with e; injection e with e1 e2; exact ⟨e1.symm, e2.symm⟩)))
            clear hJ hy hb hq hpre
            by_cases h1 : x1 = y1
            · subst h1
              have h2 : (x2 == y2) = false := by simp; exact fun e => hxy ⟨rfl, e⟩
              gi_wp2_with fail
              gi_region
              all_goals (gi_wp2; exact ⟨((KeepsOthers.of_drew W).trans (KeepsOthers.setCell _ _ _)).from _, .inl HB.out⟩)
            · have h2 : (x1 == y1) = false := by simpa using h1
              gi_wp2_with fail
              gi_region
              all_goals (gi_wp2; exact ⟨((KeepsOthers.of_drew W).trans (KeepsOthers.setCell _ _ _)).from _, .inl HB.out⟩)
      case done =>
        rintro D ys W hD rfl ⟨hJ, hpre, hpm⟩ hK
        have hwD : w.heap.size ≤ D := by
          simp only [World.size_alloc] at hD
          omega
        rw [hxl.out] at hJ hpm
        clear hpre
        have c3 : W.cell? ⟨w.heap.size, 0, none⟩ = some (.int .i64 m) := (hJ.x3.cell 0).trans rfl
        have c6 : W.cell? ⟨b6, 0, none⟩ = some (.slice A t c') := (hJ.x6.cell 0).trans rfl
        have c9 : W.cell? ⟨wr.heap.size, 0, none⟩ = some (.int .i64 t) := (hJ.x9.cell 0).trans rfl
        have HSA := Lib.hid (same_any w W p t c' t hv (ent ks t) A hJ.en hJ.rf (ent_len ks t) (by omega))
        have HI : Hid (Eb w W p w.heap.size (w.heap.size + 1) b6 wr.heap.size hv A c' m (ent ks t) t t) := hJ
        have HD := Lib.hid hK
        clear hD hJ hK st st2 hsq hcn F4 ht htn
        have hmn : min m (t : Int) = t := by omega
        go_wp2_with fail
        refine HSA.out.mono ?_
        rintro e w9 ⟨rfl, G9⟩
        clear hmn c3 c6 c9 HSA
        have G9' := Lib.hid (HI.out.en.gr.no G9.fr)
        have k4 : Bk w9 (w.heap.size + 1) 4 #[.bool false] := G9.fr.bk HI.out.x4 id
        have hdd : w9.heap[D]? = some (.deferred (some [])) := (G9.fr.keep D (Array.getElem?_eq_some_iff.1 HD.out).1 id).trans HD.out
        have c4 : w9.cell? ⟨w.heap.size + 1, 0, none⟩ = some (.bool false) := (k4.cell 0).trans rfl
        have f4 := k4.frozen 0
        replace hdd := Lib.hid hdd
        clear k4 G9 HI HD
        go_wp2
        have hK' := (KeepsOthers.setCell w9 ⟨w.heap.size + 1, 0, none⟩ (.bool true)).same D _ hdd.out rfl
        have hc5 := cell_kept (World.cell?_setCell_same' w9 ⟨w.heap.size + 1, 0, none⟩ (.bool true) (by rw [c4]; rfl)) (grownBy_putObj' _ D (.deferred none)) (fun r e => by cases e; exact ⟨_, hK', rfl⟩)
        refine ⟨by simp, .inl ⟨_, _, rfl, run_takeDeferred hK', ?_⟩⟩
        refine ⟨.bool true, ?_, rfl, ((G9'.out.set (p := ⟨w.heap.size + 1, 0, none⟩) (by show w.heap.size ≤ w.heap.size + 1; omega) (.bool true)).below).trans (belowK_b (w := w) (Nat.le_refl _) _ D _ _ hwD hK' rfl rfl)⟩
        simp [results, go_sem, hc5]
      case stop =>
        rintro D cd pre W hD hp h hK
        rcases h with h | ⟨rfl, k, hJ, hkm, hkt⟩
        · exact (h hp).elim
        subst hkm
        have hwD : w.heap.size ≤ D := by
          simp only [World.size_alloc] at hD
          omega
        refine wpIn_wide.2 ?_
        have c3 : W.cell? ⟨w.heap.size, 0, none⟩ = some (.int .i64 k) := (hJ.x3.cell 0).trans rfl
        have c6 : W.cell? ⟨b6, 0, none⟩ = some (.slice A t c') := (hJ.x6.cell 0).trans rfl
        have c9 : W.cell? ⟨wr.heap.size, 0, none⟩ = some (.int .i64 k) := (hJ.x9.cell 0).trans rfl
        have HSA := Lib.hid (same_any w W p t c' t hv (ent ks t) A hJ.en hJ.rf (ent_len ks t) (by omega))
        have HI : Hid (Eb w W p w.heap.size (w.heap.size + 1) b6 wr.heap.size hv A c' k (ent ks t) t k) := hJ
        have HD := Lib.hid hK
        clear hD hJ hK st st2 hsq hcn F4 ht htn
        have hmn : min (k : Int) (t : Int) = k := by omega
        go_wp2_with fail
        refine HSA.out.mono ?_
        rintro e w9 ⟨rfl, G9⟩
        clear hmn c3 c6 c9 HSA
        have G9' := Lib.hid (HI.out.en.gr.no G9.fr)
        have k4 : Bk w9 (w.heap.size + 1) 4 #[.bool false] := G9.fr.bk HI.out.x4 id
        have hdd : w9.heap[D]? = some (.deferred (some [])) := (G9.fr.keep D (Array.getElem?_eq_some_iff.1 HD.out).1 id).trans HD.out
        have c4 : w9.cell? ⟨w.heap.size + 1, 0, none⟩ = some (.bool false) := (k4.cell 0).trans rfl
        have f4 := k4.frozen 0
        replace hdd := Lib.hid hdd
        clear k4 G9 HI HD
        go_wp2
        have hK' := (KeepsOthers.setCell w9 ⟨w.heap.size + 1, 0, none⟩ (.bool true)).same D _ hdd.out rfl
        have hc5 := cell_kept (World.cell?_setCell_same' w9 ⟨w.heap.size + 1, 0, none⟩ (.bool true) (by rw [c4]; rfl)) (grownBy_putObj' _ D (.deferred none)) (fun r e => by cases e; exact ⟨_, hK', rfl⟩)
        refine ⟨by simp, .inl ⟨_, _, rfl, run_takeDeferred hK', ?_⟩⟩
        refine ⟨.bool true, ?_, rfl, ((G9'.out.set (p := ⟨w.heap.size + 1, 0, none⟩) (by show w.heap.size ≤ w.heap.size + 1; omega) (.bool true)).below).trans (belowK_b (w := w) (Nat.le_refl _) _ D _ _ hwD hK' rfl rfl)⟩
        simp [results, go_sem, hc5]
end Go.Proofs.Ytnepkpcoglfejaa
