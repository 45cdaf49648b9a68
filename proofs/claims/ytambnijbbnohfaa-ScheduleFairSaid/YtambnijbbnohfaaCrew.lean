/- crew: workers that count. -/
import Derived.Test.YtambnijbbnohfaaCount
namespace Go.Proofs.Ytambnijbbnohfaa
open Go.RowKit

theorem Try.info34' : (Try.prog.info? 34).map (fun i => (i.zero, i.size, i.bytes)) = some (some .nilIface, 1, 16) := by kernel_rfl
theorem Try.wks : OneCell Try.prog 31 34 16 := by
  refine ⟨Try.underlying31, ?_⟩
  obtain ⟨i0, hi, hz0, hz1, hz2⟩ := info_parts Try.info34'
  exact ⟨i0, _, hi, hz0, hz1, hz2, rfl⟩

/-- wpList_app1, the new block's number spelt otherwise. -/
theorem wpList_app1at {P : Program} {t e : TypeId} {bytes : Nat} (h : OneCell P t e bytes) {w : World} {ops : Array Oper} {rest : List Oper} {o : Oper} {a : Act} {Q : Exit → Act → World → Prop} (hgd : o.guard = none) (s x : Operand) (ho : o.op = .call { callee := .builtin .append, args := #[s, x], argTypes := #[t, t] })
    (base : Nat) (v : Value) (xs : List Value) (u : Value) (p : Nat) (hp : w.heap.size = p) (hs : a.eval s = v) (hx : a.eval x = .slice (some ⟨p, 0, none⟩) 1 1) (hown : w.ownsRow base e 1 v xs.length xs) (h1 : u.oneCell' = true)
    (h63 : xs.length + 1 ≤ maxLen) (hbytes : (xs.length + 1) * bytes ≤ 140737488355328) (hbase : base ≤ w.heap.size)
    (hK : ∀ v' w', w'.ownsRow base e 1 v' (xs ++ [u]).length (xs ++ [u]) → (∀ b, b < w.heap.size → v.ownBlock ≠ some b → w'.heap[b]? = w.heap[b]?) → (v'.ownBlock = v.ownBlock ∨ ∀ b, v'.ownBlock = some b → w.heap.size < b) → (∀ B, B ≤ w.heap.size → (∀ b, v.ownBlock = some b → B ≤ b) → Below B w w') → wpList P ops Q rest (a.put o.dst v') w') :
    wpList P ops Q (o :: rest) a (w.alloc (.cells #[u] e)) := by
  subst hp
  exact wpList_app1 h hgd s x ho base v xs u hs hx hown h1 h63 hbytes hbase hK

/-- The worker whose counter lies in block g. -/
def wk (g : Nat) : Value := .iface 55 (.pointer (some ⟨g, 0, none⟩))

/-- Workers vw with the counters in the blocks gcs, the numbers of steps that they have left, and the log (in the variable in block bl) of the steps. -/
structure Crew (B bl : Nat) (vw : Value) (gcs : List Nat) (left log : List Int) (w : World) : Prop where
  size : B ≤ w.heap.size
  row : w.ownsRow B 34 1 vw gcs.length (gcs.map wk)
  len : left.length = gcs.length
  nodup : gcs.Nodup
  ge : ∀ g ∈ gcs, B ≤ g
  cell : ∀ k (h : k < gcs.length), Bk w gcs[k] 57 #[.int .i64 k, .int .i64 (left.getD k 0), .pointer (some ⟨bl, 0, none⟩)]
  hbl : B ≤ bl
  ex : ∃ vlog, Bk w bl 22 #[vlog] ∧ OwnI w B vlog log

theorem row_ne {w : World} {base n size : Nat} {v : Value} {xs : List Value} {e t : TypeId} {g : Nat} {cs : Array Value} (h : w.ownsRow base e size v n xs) (hb : Bk w g t cs) (ht : t ≠ e) : v.ownBlock ≠ some g := by
  rcases h.2 with ⟨rfl, _⟩ | ⟨g', cap, cur, rfl, _, hh, _⟩
  · simp [Value.ownBlock]
  · intro he
    have : g' = g := by simpa [Value.ownBlock] using he
    subst this
    exact Bk.ne (t := e) hh hb (fun e => ht e.symm) rfl
theorem row_keep {w w' : World} {base n size : Nat} {v : Value} {xs : List Value} {e : TypeId} (h : w.ownsRow base e size v n xs) (hk : ∀ b, v.ownBlock = some b → w'.heap[b]? = w.heap[b]?) : w'.ownsRow base e size v n xs := by
  refine ⟨h.1, ?_⟩
  rcases h.2 with hn | ⟨g, cap, cur, rfl, hb, hgg, rest⟩
  · exact .inl hn
  · exact .inr ⟨g, cap, cur, rfl, hb, (hk g rfl).trans hgg, rest⟩
theorem row_row_ne {w : World} {base n size base' n' size' : Nat} {v v' : Value} {xs xs' : List Value} {e e' : TypeId} (h : w.ownsRow base e size v n xs) (h' : w.ownsRow base' e' size' v' n' xs') (hne : e ≠ e') : ∀ b, v.ownBlock = some b → v'.ownBlock ≠ some b := by
  intro b hb hb'
  rcases h.2 with ⟨rfl, _⟩ | ⟨g, cap, cur, rfl, _, hh, _⟩
  · cases hb
  · injection hb with hb
    subst hb
    exact row_ne h' hh hne hb'

theorem crew_round {B bl k : Nat} {vw vw' : Value} {gcs : List Nat} {zs : List Int} {z : Int} {w w1 : World} (h : Crew B bl vw gcs (zs.take k) [] w) (hk : gcs.length = k) (hkz : zs[k]? = some z)
    (hrow : w1.ownsRow B 34 1 vw' (gcs.map wk ++ [wk w.heap.size]).length (gcs.map wk ++ [wk w.heap.size]))
    (hkeep : ∀ b, b < (w.alloc (.cells #[.int .i64 k, .int .i64 z, .pointer (some ⟨bl, 0, none⟩)] 57)).heap.size → vw.ownBlock ≠ some b → w1.heap[b]? = (w.alloc (.cells #[.int .i64 k, .int .i64 z, .pointer (some ⟨bl, 0, none⟩)] 57)).heap[b]?)
    (hsz : (w.alloc (.cells #[.int .i64 k, .int .i64 z, .pointer (some ⟨bl, 0, none⟩)] 57)).heap.size ≤ w1.heap.size) : Crew B bl vw' (gcs ++ [w.heap.size]) (zs.take (k + 1)) [] w1 := by
  obtain ⟨h1, h2, h3, h4, h5, h6, h7, vl, h8, h9⟩ := h
  have hnew := Bk.made w 57 #[.int .i64 k, .int .i64 z, .pointer (some ⟨bl, 0, none⟩)]
  have h2' := World.ownsRow.alloc h2 (.cells #[.int .i64 k, .int .i64 z, .pointer (some ⟨bl, 0, none⟩)] 57)
  have hz : zs.take (k + 1) = zs.take k ++ [z] := by rw [List.take_add_one, hkz]; rfl
  have hlt : ∀ g ∈ gcs, g < w.heap.size := fun g hg => by
    obtain ⟨j, hj, rfl⟩ := List.getElem_of_mem hg
    exact (h6 j hj).lt
  rw [World.size_alloc] at hsz
  refine ⟨by omega, by simpa using hrow, by rw [hz]; simp [h3], ?_, ?_, ?_, h7, vl, ?_, ?_⟩
  · rw [List.nodup_append]
    refine ⟨h4, by simp, fun a ha b hb e => ?_⟩
    simp at hb
    have := hlt a ha
    omega
  · intro g hg
    simp at hg
    rcases hg with hg | rfl
    · exact h5 g hg
    · exact h1
  · intro j hj
    rw [hz]
    by_cases hjk : j < gcs.length
    · have hb := (h6 j hjk).alloc (.cells #[.int .i64 k, .int .i64 z, .pointer (some ⟨bl, 0, none⟩)] 57)
      rw [List.getElem_append_left hjk, List.getD_eq_getElem?_getD, List.getElem?_append_left (by omega), ← List.getD_eq_getElem?_getD]
      exact hb.keep (hkeep _ hb.lt (row_ne h2' hb (by decide)))
    · have hj' : j = gcs.length := by simp at hj; omega
      subst hj'
      rw [List.getElem_append_right (by omega), List.getD_eq_getElem?_getD, List.getElem?_append_right (by omega)]
      simp only [Nat.sub_self, List.getElem_cons_zero, h3, List.getElem?_cons_zero, Option.getD_some]
      rw [hk]
      exact hnew.keep (hkeep _ hnew.lt (row_ne h2' hnew (by decide)))
  · have hb := h8.alloc (.cells #[.int .i64 k, .int .i64 z, .pointer (some ⟨bl, 0, none⟩)] 57)
    exact hb.keep (hkeep _ hb.lt (row_ne h2' hb (by decide)))
  · have h9' : OwnI (w.alloc (.cells #[.int .i64 k, .int .i64 z, .pointer (some ⟨bl, 0, none⟩)] 57)) B vl [] := World.ownsRow.alloc h9 _
    exact h9'.keep fun b e => hkeep b (h9'.lt b e).2 (fun e' => row_row_ne h2' h9' (by decide) b e' e)

structure CrewPost (zs : List Int) (w : World) (e : Ending) (w' : World) : Prop where
  ex : ∃ bl vw gcs, e = .returned (.tuple #[vw, .pointer (some ⟨bl, 0, none⟩)]) ∧ Crew w.heap.size bl vw gcs zs [] w'
  below : Below w.heap.size w w'

theorem crew_start (w : World) : Crew w.heap.size (w.heap.size + 1) (.slice none 0 0) [] [] [] ((w.alloc (.cells #[] 3)).alloc (.cells #[.slice (some ⟨w.heap.size, 0, none⟩) 0 0] 22)) := by
  refine ⟨by simp; omega, World.ownsRow_nil _ _ _ _, rfl, by simp, by simp, fun k h => by simp at h, by omega, .slice (some ⟨w.heap.size, 0, none⟩) 0 0, ?_, ?_⟩
  · have := Bk.made (w.alloc (.cells #[] 3)) 22 #[.slice (some ⟨w.heap.size, 0, none⟩) 0 0]
    rwa [World.size_alloc] at this
  · exact World.ownsRow.alloc (World.ownsRow_made w #[] 0 (Nat.le_refl _) (by unfold maxLen; omega) rfl) _

set_option maxHeartbeats 400000 in
theorem crew_any (A : Option Addr) (n c : Nat) (zs : List Int) (w : World) (hn : zs.length = n) (hN : n ≤ 1000) (hs : Sees w w.heap.size A (zs.map (Value.int .i64))) : Calls Try.prog 17 #[.slice A n c] w (CrewPost zs w) := by
  have HN := Lib.hid hn; clear hn
  have HS := Lib.hid hs; clear hs
  go_enter Try.func17, Try.ntmps17
  go_wp2
  go_loopw [12, 5] (fun i vw wr => ∃ k gcs, k ≤ n ∧ i = .int .i64 k ∧ Hid (gcs.length = k) ∧ Crew w.heap.size (w.heap.size + 1) vw gcs (zs.take k) [] wr ∧ Below w.heap.size w wr) (fun i _ _ => n - (intOf i).toNat)
  case atStart => exact ⟨0, [], Nat.zero_le _, rfl, rfl, crew_start w, ((Below.refl _ _).alloc (Nat.le_refl _) _).alloc (by rw [World.size_alloc]; omega) _⟩
  case round =>
    obtain ⟨k, gcs, hk, rfl, hgl, hcrew, hb⟩ := hrel
    by_cases hlt : k < n
    · have hk1 : k < zs.length := by rw [HN.out]; exact hlt
      obtain ⟨ad, rfl, hadb, hcell⟩ := (HS.out.below hb).look (k := k) (by simpa using hk1)
      simp only [List.getElem_map] at hcell
      have hz : zs[k]? = some zs[k] := List.getElem?_eq_getElem hk1
      obtain ⟨z, hze⟩ : ∃ z, zs[k] = z := ⟨_, rfl⟩
      rw [hze] at hcell hz
      have HZ := Lib.hid hz
      clear hz hze
      have hsz := hcrew.size
      have H1 := Lib.hid (World.ownsRow.alloc hcrew.row (.cells #[.int .i64 k, .int .i64 z, .pointer (some ⟨w.heap.size + 1, 0, none⟩)] 57))
      have hlk : (gcs.map wk).length ≤ 1000 := by rw [List.length_map, hgl.out]; omega
      have H2 : Hid ((wr.alloc (.cells #[.int .i64 k, .int .i64 z, .pointer (some ⟨w.heap.size + 1, 0, none⟩)] 57)).ownsRow w.heap.size 34 1 u5 (gcs.map wk).length (gcs.map wk)) := by rw [List.length_map]; exact H1.out
      go_wp2_with (at_builtin; refine wpList_app1at (w := wr.alloc (.cells #[.int .i64 k, .int .i64 z, .pointer (some ⟨w.heap.size + 1, 0, none⟩)] 57)) Try.wks rfl _ _ rfl w.heap.size _ (gcs.map wk) (wk wr.heap.size) (wr.heap.size + 1) (World.size_alloc ..) rfl rfl H2.out rfl (by unfold maxLen; omega) (by omega) (by rw [World.size_alloc]; omega) ?_)
      intro v' w1 hrow hkeep _ hbel
      have hb0 : Below w.heap.size w (wr.alloc (.cells #[.int .i64 k, .int .i64 z, .pointer (some ⟨w.heap.size + 1, 0, none⟩)] 57)) := hb.alloc hb.size _
      have hbw := hbel w.heap.size (by omega) (fun b e => (hcrew.row.lt b e).1)
      have hb1 := hb0.trans hbw
      have hdone := crew_round (w1 := w1) (vw' := v') hcrew hgl.out HZ.out (by rw [List.length_append, List.length_map]; exact hrow) (fun b hb hne => hkeep b (by rwa [World.size_alloc] at hb) hne) hbw.size
      clear hrow hkeep hbel hcrew hcell H1 H2 hb0 hbw
      go_wp2
      go_roundw
      case rel => exact ⟨k + 1, gcs ++ [wr.heap.size], by omega, by go_num, (by show _ = _; rw [List.length_append, hgl.out]; rfl), hdone, hb1⟩
      case measure => simp [intOf]; omega
    · have e : zs.take k = zs := List.take_of_length_le (by rw [HN.out]; omega)
      rw [e] at hcrew
      go_wp2
      go_ret2
      exact ⟨⟨_, _, gcs, rfl, hcrew⟩, hb⟩

end Go.Proofs.Ytambnijbbnohfaa
