/- run: the steps of workers, whatever a step does. -/
import Derived.Test.YtambnijbbnohfaaPlace
namespace Go.Proofs.Ytambnijbbnohfaa
open Go.RowKit

section
variable {σ : Type}
/-- The steps of the unfinished workers op, at most 'fuel' many: how many there are, whether all workers are finished, and the state behind them. -/
def runF (act : σ → Int → Bool × σ) : Nat → List Int → List Int → Int → σ → Nat × Bool × σ
  | _, [], _, _, s => (0, true, s)
  | 0, _ :: _, _, _, s => (0, false, s)
  | fuel + 1, op, ss, last, s =>
    let i := op.getD (place op ss last) 0
    let r := runF act fuel (if (act s i).1 then op.eraseIdx (place op ss last) else op) ss.tail i (act s i).2
    (r.1 + 1, r.2)

theorem runF_nil (act : σ → Int → Bool × σ) (fuel : Nat) (ss : List Int) (last : Int) (s : σ) : runF act fuel [] ss last s = (0, true, s) := by cases fuel <;> rfl
theorem runF_zero (act : σ → Int → Bool × σ) (op ss : List Int) (last : Int) (s : σ) (h : 0 < op.length) : runF act 0 op ss last s = (0, false, s) := by
  cases op with
  | nil => simp at h
  | cons x xs => rfl
theorem runF_succ (act : σ → Int → Bool × σ) (fuel : Nat) (op ss : List Int) (last : Int) (s : σ) (h : 0 < op.length) : runF act (fuel + 1) op ss last s =
    ((runF act fuel (if (act s (op.getD (place op ss last) 0)).1 then op.eraseIdx (place op ss last) else op) ss.tail (op.getD (place op ss last) 0) (act s (op.getD (place op ss last) 0)).2).1 + 1,
     (runF act fuel (if (act s (op.getD (place op ss last) 0)).1 then op.eraseIdx (place op ss last) else op) ss.tail (op.getD (place op ss last) 0) (act s (op.getD (place op ss last) 0)).2).2) := by
  cases op with
  | nil => simp at h
  | cons x xs => rfl

/-- What is asked of the function F that performs a step: a state is seen in memory, outside the blocks gt and g; a step makes of it what 'act' says. -/
structure Steps (F : Nat) (caps : Array Value) (act : σ → Int → Bool × σ) (Inv : σ → World → Prop) (Ok : σ → List Int → Prop) (A : Option Addr) (ss : List Int) (B gt g : Nat) : Prop where
  enter : ∀ args W, (callFunc F args).run Try.prog W = .ok (.enter F args) W
  stable : ∀ s w w', Inv s w → w.heap.size ≤ w'.heap.size → (∀ b, b < w.heap.size → b ≠ g → b ≠ gt → w'.heap[b]? = w.heap[b]?) → Inv s w'
  script : ∀ s w, Inv s w → Sees w w.heap.size A (ss.map (Value.int .u8))
  call : ∀ s op i w, Inv s w → Ok s op → i ∈ op → Calls Try.prog F (#[.int .i64 i] ++ caps) w fun e w' => e = .returned (.bool (act s i).1) ∧ Inv (act s i).2 w' ∧ Below B w w' ∧ w'.heap[gt]? = w.heap[gt]? ∧ w'.heap[g]? = w.heap[g]?
  next : ∀ s op p, Ok s op → p < op.length → Ok (act s (op.getD p 0)).2 (if (act s (op.getD p 0)).1 then op.eraseIdx p else op)

/-- What holds at the head of a round of run. -/
structure RunRel (act : σ → Int → Bool × σ) (Inv : σ → World → Prop) (Ok : σ → List Int → Prop) (A : Option Addr) (ss : List Int) (B gt g M : Nat) (R : Nat × Bool × σ) (w0 : World) (n : Nat) (w : World) : Prop where
  le : n ≤ M
  below : Below B w0 w
  ex : ∃ (j : Nat) (Aj : Option Addr) (cj : Nat) (v : Value) (op : List Int) (last : Int) (s : σ), j ≤ ss.length ∧ Bk w gt 61 #[v, .slice Aj (ss.length - j) cj, .int .i64 last] ∧ OwnI w (gt + 1) v op ∧ (∀ b, v.ownBlock = some b → b = g) ∧
    (j < ss.length → Aj = A.map (·.add j)) ∧ ss.length - j ≤ cj ∧ cj ≤ maxLen ∧ op.length ≤ 1000000 ∧ Inv s w ∧ Ok s op ∧
    R = (n + (runF act (M - n) op (ss.drop j) last s).1, (runF act (M - n) op (ss.drop j) last s).2)

structure RunPost (Inv : σ → World → Prop) (B : Nat) (R : Nat × Bool × σ) (w : World) (e : Ending) (w' : World) : Prop where
  ret : e = .returned (.tuple #[.int .i64 R.1, .int .i64 (if R.2.1 then 0 else 8)])
  inv : Inv R.2.2 w'
  below : Below B w w'

theorem sees_at {w : World} {B : Nat} {A : Option Addr} {xs : List Value} (h : Sees w B A xs) (j : Nat) {Aj : Option Addr} (hA : j < xs.length → Aj = A.map (·.add j)) : Sees w B Aj (xs.drop j) := fun i u hu => by
  rw [List.getElem?_drop] at hu
  obtain ⟨ad, rfl, hb, hcell⟩ := h _ _ hu
  have hlt : j + i < xs.length := by
    rcases Nat.lt_or_ge (j + i) xs.length with h | h
    · exact h
    · rw [List.getElem?_eq_none h] at hu; cases hu
  rw [hA (by omega)]
  exact ⟨ad.add j, rfl, by rw [add_blk]; exact hb, by rw [add_add]; exact hcell⟩

theorem run_round {act : σ → Int → Bool × σ} {Inv : σ → World → Prop} {Ok : σ → List Int → Prop} {A Aj Aj1 : Option Addr} {ss : List Int} {B gt g M k n j cj1 : Nat} {op' : List Int} {i : Int} {s' : σ} {v' : Value} {R : Nat × Bool × σ} {w w' : World}
    (hR : R = (n + ((runF act k op' (ss.drop j).tail i s').1 + 1), (runF act k op' (ss.drop j).tail i s').2)) (hk : M - n = k + 1) (hinv : Inv s' w') (hok : Ok s' op')
    (hb : Bk w' gt 61 #[v', .slice Aj1 (ss.length - j - 1) cj1, .int .i64 i]) (hown : OwnI w' (gt + 1) v' op') (hvg : ∀ b, v'.ownBlock = some b → b = g) (hbel : Below B w w') (hop : op'.length ≤ 1000000) (hj : j ≤ ss.length)
    (hAj : j < ss.length → Aj = A.map (·.add j)) (hA1 : 1 < ss.length - j → Aj1 = Aj.map (·.add 1)) (hc1 : ss.length - j - 1 ≤ cj1) (hc2 : cj1 ≤ maxLen) : RunRel act Inv Ok A ss B gt g M R w (n + 1) w' := by
  refine ⟨by omega, hbel, min (j + 1) ss.length, Aj1, cj1, v', op', i, s', by omega, ?_, hown, hvg, fun h => ?_, by omega, hc2, hop, hinv, hok, ?_⟩
  · rw [show ss.length - min (j + 1) ss.length = ss.length - j - 1 from by omega]
    exact hb
  · rw [hA1 (by omega), hAj (by omega), show min (j + 1) ss.length = j + 1 from by omega]
    cases A <;> simp [add_add]
  · have e : ss.drop (min (j + 1) ss.length) = (ss.drop j).tail := by
      rw [List.tail_drop]
      by_cases h : j < ss.length
      · rw [show min (j + 1) ss.length = j + 1 from by omega]
      · rw [show min (j + 1) ss.length = ss.length from by omega, List.drop_length, List.drop_of_length_le (by omega)]
    rw [e, show M - (n + 1) = k from by omega, hR]
    congr 1
    omega

theorem run_fin {act : σ → Int → Bool × σ} {Inv : σ → World → Prop} {Ok : σ → List Int → Prop} {A Aj Aj1 : Option Addr} {ss : List Int} {B gt g M k n j c cj1 P : Nat} {op : List Int} {i : Int} {s' : σ} {R : Nat × Bool × σ} {w w3 w' : World}
    (hR : R = (n + ((runF act k (if true = true then op.eraseIdx P else op) (ss.drop j).tail i s').1 + 1), (runF act k (if true = true then op.eraseIdx P else op) (ss.drop j).tail i s').2)) (hk : M - n = k + 1) (hinv : Inv s' w3) (hok : Ok s' (if true = true then op.eraseIdx P else op))
    (hf : FinPost g gt (op.length - 1) c (.slice Aj1 (ss.length - j - 1) cj1) i (op.eraseIdx P) w3 w') (hbel : Below B w w3) (hB : B ≤ gt) (hgg : gt + 1 ≤ g) (hc : op.length ≤ c) (hcM : c ≤ maxLen) (hop : op.length ≤ 1000000) (hP : P < op.length) (hj : j ≤ ss.length)
    (hAj : j < ss.length → Aj = A.map (·.add j)) (hA1 : 1 < ss.length - j → Aj1 = Aj.map (·.add 1)) (hc1 : ss.length - j - 1 ≤ cj1) (hc2 : cj1 ≤ maxLen)
    (hst : ∀ s w w', Inv s w → w.heap.size ≤ w'.heap.size → (∀ b, b < w.heap.size → b ≠ g → b ≠ gt → w'.heap[b]? = w.heap[b]?) → Inv s w') (hlt : gt < w3.heap.size ∧ g < w3.heap.size) : RunRel act Inv Ok A ss B gt g M R w (n + 1) w' := by
  obtain ⟨h1, h2, h3, h4, h5, ⟨cur, h6, h7, h8⟩, h9⟩ := hf
  have hl : (op.eraseIdx P).length = op.length - 1 := List.length_eraseIdx_of_lt hP
  refine run_round hR hk (hst s' w3 w' hinv h4 h9) hok h5 ?_ (fun b e => by injection e with e; exact e.symm) (hbel.trans ⟨h1, h2, h3, h4, fun b hb => h9 b (by omega) (by omega) (by omega)⟩) (by rw [if_pos rfl, hl]; omega) hj hAj hA1 hc1 hc2
  rw [if_pos rfl]
  exact ⟨by simp, .inr ⟨g, c, cur, by rw [hl], hgg, h6, by rw [hl]; omega, hcM, by simpa using h8, by rw [hl]; simpa using h7⟩⟩

theorem run_end_ok {act : σ → Int → Bool × σ} {Inv : σ → World → Prop} {B n k : Nat} {ss : List Int} {last : Int} {s : σ} {R : Nat × Bool × σ} {w w' : World} (hR : R = (n + (runF act k [] ss last s).1, (runF act k [] ss last s).2)) (hinv : Inv s w') (hb : Below B w w') :
    RunPost Inv B R w (.returned (.tuple #[.int .i64 n, .int .i64 0])) w' := by
  rw [runF_nil] at hR
  subst hR
  exact ⟨rfl, hinv, hb⟩
theorem run_end_limit {act : σ → Int → Bool × σ} {Inv : σ → World → Prop} {B n : Nat} {op ss : List Int} {last : Int} {s : σ} {R : Nat × Bool × σ} {w w' : World} (hR : R = (n + (runF act (n - n) op ss last s).1, (runF act (n - n) op ss last s).2)) (h0 : 0 < op.length) (hinv : Inv s w') (hb : Below B w w') :
    RunPost Inv B R w (.returned (.tuple #[.int .i64 n, .int .i64 8])) w' := by
  rw [Nat.sub_self, runF_zero _ _ _ _ _ h0] at hR
  subst hR
  exact ⟨rfl, hinv, hb⟩

set_option maxHeartbeats 400000 in
theorem run_any {F : Nat} {caps : Array Value} {act : σ → Int → Bool × σ} {Inv : σ → World → Prop} {Ok : σ → List Int → Prop} {A : Option Addr} {ss : List Int} {B gt g : Nat} (H : Steps F caps act Inv Ok A ss B gt g)
    (M c : Nat) (v : Value) (op : List Int) (s : σ) (w : World) (hM : M ≤ maxLen) (hblk : Bk w gt 61 #[v, .slice A ss.length c, .int .i64 (-1)]) (hown : OwnI w (gt + 1) v op) (hvg : ∀ b, v.ownBlock = some b → b = g)
    (hc1 : ss.length ≤ c) (hc2 : c ≤ maxLen) (hop : op.length ≤ 1000000) (hinv : Inv s w) (hok : Ok s op) (hB : B ≤ gt) (hby : ∀ x ∈ ss, 0 ≤ x ∧ x ≤ 255) :
    Calls Try.prog 24 #[.pointer (some ⟨gt, 0, none⟩), .func (Fn.func F) #[] caps, .int .i64 M] w (RunPost Inv B (runF act M op ss (-1) s) w) := by
  have hst : RunRel act Inv Ok A ss B gt g M (runF act M op ss (-1) s) w 0 w :=
    ⟨Nat.zero_le _, Below.refl _ _, 0, A, c, v, op, -1, s, Nat.zero_le _, hblk, hown, hvg, fun _ => by cases A <;> simp [Addr.add], hc1, hc2, hop, hinv, hok, by simp⟩
  generalize runF act M op ss (-1) s = R at hst ⊢
  have hen := H.enter
  unfold maxLen at hM
  clear hblk hown hvg hc1 hc2 hop hinv hok v op s c
  have HBY := Lib.hid hby; clear hby
  go_enter Try.func24, Try.ntmps24
  go_wp2
  go_loopw [8] (fun i wr => ∃ n : Nat, i = .int .i64 n ∧ RunRel act Inv Ok A ss B gt g M R w n wr) (fun i _ => M - (intOf i).toNat)
  case atStart => exact ⟨0, rfl, hst⟩
  case round =>
    obtain ⟨n, rfl, hle, hbel, j, Aj, cj, v, op, last, s, hj, hblk, hown, hvg, hAj, hcj1, hcj2, hop, hinv, hok, hR⟩ := hrel
    have HR := Lib.hid hR; clear hR hst
    have HAJ := Lib.hid hAj; clear hAj
    have HVG := Lib.hid hvg; clear hvg
    by_cases h0 : op.length = 0
    · obtain ⟨A', c', rfl, hc', _⟩ := hown.form
      have hcell : wr.cell? ⟨gt, 0, none⟩ = some (.slice A' op.length c') := by rw [hblk.cell]; rfl
      obtain rfl : op = [] := List.eq_nil_of_length_eq_zero h0
      go_wp2
      go_ret2
      exact run_end_ok HR.out hinv hbel
    · have h0' : ((op.length : Int) == 0) = false := by simpa using h0
      obtain ⟨_, hn | ⟨g', c', cur, rfl, hgg, hrow, hc', hcM', hcs, hcur⟩⟩ := id hown
      · exact absurd hn.2 h0
      obtain rfl : g' = g := HVG.out g' rfl
      clear HVG
      have hrow : Bk wr g' 3 cur := hrow
      have hcell : wr.cell? ⟨gt, 0, none⟩ = some (.slice (some ⟨g', 0, none⟩) op.length c') := by rw [hblk.cell]; rfl
      by_cases hm : n = M
      · subst hm
        go_wp2
        go_ret2
        exact run_end_limit HR.out (by omega) hinv hbel
      · have hm' : ((n : Int) == (M : Int)) = false := by rw [beq_eq_false_iff_ne]; omega
        have HS := Lib.hid (sees_at (H.script s wr hinv) j (Aj := Aj) (by simpa using HAJ.out))
        have hP := place_lt op (ss.drop j) last (by omega)
        go_wp2_with fail
        refine (next_any Aj _ (ss.length - j) cj gt wr.heap.size last wr op (ss.drop j) hblk hown (by omega) hop (by rw [List.map_drop]; exact HS.out) (by simp) hcj1 hcj2 (fun x hx => HBY.out x (List.mem_of_mem_drop hx))).mono ?_
        rintro e w1 ⟨rfl, ⟨Aj1, cj1, hb1, hA1, hc1, hc2⟩, hg1⟩
        obtain ⟨P, hPe⟩ : ∃ P, place op (ss.drop j) last = P := ⟨_, rfl⟩
        obtain ⟨i, hi⟩ : ∃ i, op.getD P 0 = i := ⟨_, rfl⟩
        have hR := HR.out
        obtain ⟨k, hk⟩ : ∃ k, M - n = k + 1 := ⟨M - n - 1, by omega⟩
        rw [hk, runF_succ _ _ _ _ _ _ (by omega), hPe, hi] at hR
        have HK := Lib.hid hk; clear hk
        clear HR
        have HR := Lib.hid hR; clear hR
        rw [hPe] at hP ⊢
        clear hPe
        have hmem : i ∈ op := by rw [← hi, List.getD_eq_getElem?_getD, List.getElem?_eq_getElem hP]; exact List.getElem_mem hP
        have hne : g' ≠ gt := by omega
        have hrow1 : Bk w1 g' 3 cur := hrow.keep (hg1.block g' hrow.lt (fun e => hne (by injection e)))
        have hx : w1.cell? ⟨g', P, none⟩ = some (.int .i64 i) := by
          rw [hrow1.cell, ← Array.getElem?_toList, ← List.getElem?_take_of_lt (show P < op.length * 1 by omega), hcur, List.getElem?_map, List.getElem?_eq_getElem hP, ← hi, List.getD_eq_getElem?_getD, List.getElem?_eq_getElem hP]
          rfl
        have HI := Lib.hid hi; clear hi
        have hcell1 : w1.cell? ⟨gt, 0, none⟩ = some (.slice (some ⟨g', 0, none⟩) op.length c') := by rw [hb1.cell]; rfl
        have hcell2 : w1.cell? ⟨gt, 2, none⟩ = some (.int .i64 last) := by rw [hb1.cell]; rfl
        have hfr2 : w1.frozen? ⟨gt, 2, none⟩ = false := hb1.frozen 2
        clear hcell
        have HA1 := Lib.hid hA1; clear hA1
        have HCS := Lib.hid hcs; clear hcs
        have HCU := Lib.hid hcur; clear hcur
        go_wp2_with fail
        have hb2 : Bk (w1.setCell ⟨gt, 2, none⟩ (.int .i64 i)) gt 61 #[.slice (some ⟨g', 0, none⟩) op.length c', .slice Aj1 (ss.length - j - 1) cj1, .int .i64 i] := hb1.put 2 _
        have hrow2 : Bk (w1.setCell ⟨gt, 2, none⟩ (.int .i64 i)) g' 3 cur := hrow1.other hne _
        have hinv2 : Inv s (w1.setCell ⟨gt, 2, none⟩ (.int .i64 i)) := H.stable s wr _ hinv (Nat.le_trans hg1.size (by simp [World.setCell]))
          (fun b h1 h2 h3 => (Below.heap_setCell _ _ _ _ h3).trans (hg1.block b h1 (fun e => h3 (by injection e))))
        have hbel2 : Below B w (w1.setCell ⟨gt, 2, none⟩ (.int .i64 i)) := (hbel.grown hg1 (by have := hblk.lt; omega) (fun b e => by injection e; omega)).setCell hB _
        refine (H.call s op i _ hinv2 hok hmem).mono ?_
        rintro e w3 ⟨rfl, hinv3, hbel3, hgt3, hg3⟩
        have hb3 := hb2.keep hgt3
        have hrow3 := hrow2.keep hg3
        have hbel4 := hbel2.trans hbel3
        clear hb2 hrow2 hinv2 hbel2 hbel3 hgt3 hg3 hx hcell1 hcell2 hfr2 hrow1 hb1 hg1 hrow hblk hown hinv hbel
        by_cases hf : (act s i).1 = true
        · rw [hf] at HR ⊢
          go_wp2_with fail
          refine (finish_any g' gt P op.length c' _ i w3 cur op hb3 hrow3 hne (by simpa using HCU.out) (by simpa using HCS.out) hc' hcM' hP).mono ?_
          rintro e w5 ⟨rfl, hfp⟩
          have hdone := run_fin (HR.out) HK.out hinv3 (by have := H.next s op P hok hP; rw [HI.out, hf] at this; exact this) hfp hbel4 hB hgg hc' hcM' hop hP hj HAJ.out HA1.out hc1 hc2 H.stable (by have := hb3.lt; have := hrow3.lt; omega)
          clear hfp hinv3 hb3 hrow3 hbel4
          go_wp2
          go_roundw
          case rel => exact ⟨n + 1, by go_num, hdone⟩
          case measure => simp [intOf]; omega
        · have hf' : (act s i).1 = false := by simpa using hf
          clear hf
          rw [hf'] at HR ⊢
          have hdone : RunRel act Inv Ok A ss B gt g' M R w (n + 1) w3 := run_round (op' := op) HR.out HK.out hinv3 (by have := H.next s op P hok hP; rw [HI.out, hf'] at this; exact this) hb3
            ⟨by simp, .inr ⟨g', c', cur, rfl, hgg, hrow3, hc', hcM', HCS.out, HCU.out⟩⟩ (fun b e => by injection e with e; exact e.symm) hbel4 hop hj HAJ.out HA1.out hc1 hc2
          clear hinv3 hb3 hrow3 hbel4
          go_wp2
          go_roundw
          case rel => exact ⟨n + 1, by go_num, hdone⟩
          case measure => simp [intOf]; omega
end

end Go.Proofs.Ytambnijbbnohfaa
