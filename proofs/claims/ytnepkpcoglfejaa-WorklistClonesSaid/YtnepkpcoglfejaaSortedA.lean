/- sorted. -/
import Derived.Test.YtnepkpcoglfejaaCloA
import Derived.Test.YtnepkpcoglfejaaCmpA
import Derived.Test.YtnepkpcoglfejaaSortW
import Derived.Test.YtnepkpcoglfejaaSortL
import Derived.Shelf.SlSortCmp.NoneTotal
namespace Go.Proofs.Ytnepkpcoglfejaa
open Go.RowKit Go.Sort Go.Shelf

theorem nd_injA : ∀ {l : List ((Int × Int) × Int)}, (l.map (·.2)).Nodup → ∀ {a b : (Int × Int) × Int}, a ∈ l → b ∈ l → a.2 = b.2 → a = b
  | [], _, a, b, ha, _, _ => by cases ha
  | x :: l, h, a, b, ha, hb, e => by
    rw [List.map_cons, List.nodup_cons] at h
    rcases List.mem_cons.1 ha with h1 | h1 <;> rcases List.mem_cons.1 hb with h2 | h2
    · rw [h1, h2]
    · exact absurd (List.mem_map.2 ⟨b, h2, by rw [← e, h1]⟩) h.1
    · exact absurd (List.mem_map.2 ⟨a, h1, by rw [e, h2]⟩) h.1
    · exact nd_injA h.2 h1 h2 e
/-- The order of sorted's comparison on entries none of which have one number. -/
theorem swoA {lt : (Int × Int) → (Int × Int) → Bool} (O : Ord lt) {hs : List ((Int × Int) × Int)} (hnd : (hs.map (·.2)).Nodup) : SWO (ltOf fun x y : {e // e ∈ hs} => cfA lt x.1 y.1) := by
  have hlt : ∀ x y : {e // e ∈ hs}, ltOf (fun x y : {e // e ∈ hs} => cfA lt x.1 y.1) x y = bfr lt x.1 y.1 := fun x y => by
    show decide (cfA lt x.1 y.1 < 0) = _
    unfold cfA
    by_cases h : x.1.2 = y.1.2
    · rw [if_pos h, nd_injA hnd x.2 y.2 h, (bfr_ord O).irr]
      rfl
    · rw [if_neg h]
      cases bfr lt x.1 y.1 <;> rfl
  exact ⟨fun x => by rw [hlt]; exact (bfr_ord O).irr _, fun x y z h1 h2 => by rw [hlt] at *; exact (bfr_ord O).tr _ _ _ h1 h2, fun x y z h1 h2 => by rw [hlt] at *; exact (bfr_ord O).nt _ _ _ h1 h2⟩

theorem attach_flatA (hs : List ((Int × Int) × Int)) : hs.attach.toArray.toList.flatMap (fun x => encEA x.1) = hs.flatMap encEA := by
  rw [List.toList_toArray]
  conv => rhs; rw [← List.attach_map_subtype_val hs]
  rw [List.flatMap_map]

section
variable {ok : (Int × Int) → Prop} {lt : (Int × Int) → (Int × Int) → Bool} {fv : Value}
theorem sortcA (L : Lc Try.prog encXA ok lt fv (fun _ => False) (fun _ _ => True) Rg) (w : World) (p q B N : Nat) (v hv nv : Value) (hs E : List ((Int × Int) × Int)) (hk : Wk lt hs E N) (hp : Bk w p 71 #[fv, hv, nv]) (hq : Bk w q 24 #[.pointer (some ⟨p, 0, none⟩)]) (row : w.ownsRow B 73 3 v E.length (hs.flatMap encEA)) (ho : ∀ e ∈ hs, ok e.1) (hn : E.length ≤ 1000000) :
    Calls Try.prog 58 #[v, .func (.func 59) #[] #[.pointer (some ⟨q, 0, none⟩)]] w fun e w' => e = .returned (.tuple #[]) ∧ w'.ownsRow B 73 3 v E.length (E.flatMap encEA) ∧ Fr (fun b => v.ownBlock = some b) w w' := by
  by_cases h0 : hs = []
  · subst h0
    have hE : E = [] := hk.perm.nil_eq.symm
    subst hE
    obtain ⟨A, c, rfl⟩ := rw_form row
    have hcon := AnyF.slices_SortFunc_none Try.sortA A c (.func (.func 59) #[] #[.pointer (some ⟨q, 0, none⟩)]) w
    change Calls Try.prog 58 _ _ _ at hcon
    exact hcon.mono fun _ _ ⟨h1, h2⟩ => ⟨h1, h2 ▸ row, h2 ▸ Fr.refl _ _⟩
  · have hl := hk.len
    obtain ⟨e0, he0⟩ : ∃ e, e ∈ hs := List.exists_mem_of_ne_nil hs h0
    haveI : Inhabited {e // e ∈ hs} := ⟨⟨e0, he0⟩⟩
    obtain ⟨g, cap, rfl⟩ : ∃ g cap, v = .slice (some ⟨g, 0, none⟩) E.length cap := by
      obtain ⟨_, ⟨_, h9⟩ | ⟨g', cap, cur, rfl, _⟩⟩ := row
      · exact absurd (List.length_eq_zero_iff.1 (hl.trans h9)) h0
      · exact ⟨g', cap, rfl⟩
    have hpg : p ≠ g := fun e => rw_ne row hp (by decide) (e ▸ rfl)
    have hqg : q ≠ g := fun e => rw_ne row hq (by decide) (e ▸ rfl)
    have hds : hs.attach.toArray.size = E.length := by rw [List.size_toArray, List.length_attach, hl]
    have row' := row
    rw [← attach_flatA] at row'
    have hkk : ∀ x : {e // e ∈ hs}, (encEA x.1).length = 3 := fun _ => rfl
    have hH := sw_holds (enc := fun x : {e // e ∈ hs} => encEA x.1) (k := 3) hkk row' hds
    have hcmp : CmpLays Try.prog 59 #[.pointer (some ⟨q, 0, none⟩)] (fun x : {e // e ∈ hs} => encEA x.1) 3 (fun x y => cfA lt x.1 y.1) g 0 hs.attach.toArray.size w := fun m os dk _ x y => by
      have hF := sw_fr (enc := fun x : {e // e ∈ hs} => encEA x.1) (k := 3) w g m dk os
      have hq' := hF.bk hq hqg
      exact (cmpA L p q hv nv x.1 y.1 _ (hF.bk hp hpg) ((hq'.cell 0).trans rfl) hq'.lt (ho _ x.2) (ho _ y.2)).mono fun _ _ ⟨h1, h2⟩ => ⟨h1, h2⟩
    have hcon := AnyQ.slices_SortFunc Try.sortA 3 Try.isAgg73 Try.sizeOf73 (fun x : {e // e ∈ hs} => encEA x.1) hkk (fun x v hv => by simp [encEA] at hv; rcases hv with rfl | rfl | rfl <;> rfl) (fun x y => cfA lt x.1 y.1) (swoA L.ord (hk.perm.map (·.2) |>.nodup_iff.2 hk.nd)) 59 #[.pointer (some ⟨q, 0, none⟩)] g 0 cap hs.attach.toArray w (enters_of Try.func59 (by kernel_rfl) rfl) hcmp hH (rw_lt row g rfl).2 (by rw [hds]; omega)
    change Calls Try.prog 58 _ _ _ at hcon
    rw [hds] at hcon
    refine hcon.mono ?_
    rintro e w' ⟨rfl, d', n, os, hpm, hsr, rfl⟩
    have hd' : d'.size = E.length := hpm.1.trans hds
    have hM : d'.toList.map (·.1) = E := by
      have hp2 := hpm.2.2
      rw [Array.extract_eq_self_of_le (by omega), Array.extract_eq_self_of_le (by omega), List.toList_toArray] at hp2
      have hp3 : (d'.toList.map (·.1)).Perm hs := by
        have := hp2.map (·.1)
        rwa [List.attach_map_subtype_val] at this
      refine srt_unique (bfr_ord L.ord) ?_ hk.srt (hp3.trans hk.perm)
      have hnd : ((d'.toList.map (·.1)).map (·.2)).Nodup := ((hp3.trans hk.perm).map (·.2)).nodup_iff.2 hk.nd
      refine List.pairwise_iff_getElem.2 fun i j hi hj hij => ?_
      have hi' : i < d'.size := by simpa using hi
      have hj' : j < d'.size := by simpa using hj
      have h1 := hsr i j (Nat.zero_le _) hij (by omega)
      rw [getElem!_pos d' i hi', getElem!_pos d' j hj'] at h1
      simp only [List.getElem_map, Array.getElem_toList]
      have hne : (d'[i]).1.2 ≠ (d'[j]).1.2 := fun e => by
        have := List.pairwise_iff_getElem.1 hnd i j (by simpa using hi') (by simpa using hj') hij
        simp only [List.getElem_map, Array.getElem_toList] at this
        exact this e
      rcases bfr_tot (lt := lt) hne with h2 | h2
      · exact h2
      · have h3 : decide (cfA lt (d'[j]).1 (d'[i]).1 < 0) = false := h1
        unfold cfA at h3
        rw [if_neg (fun e => hne e.symm), if_pos h2] at h3
        cases h3
    have hr := sw_row (enc := fun x : {e // e ∈ hs} => encEA x.1) (k := 3) (m := n) (os := os) hkk row' hd'
    have hfl : d'.toList.flatMap (fun x => encEA x.1) = E.flatMap encEA := by rw [← hM, List.flatMap_map]
    rw [hfl] at hr
    exact ⟨rfl, hr, (sw_fr w g n d' os).wide fun b _ e => by rw [e]; rfl⟩
end

section
variable {ok : (Int × Int) → Prop} {lt : (Int × Int) → (Int × Int) → Bool} {fv : Value}
set_option maxRecDepth 100000 in
set_option maxHeartbeats 1600000 in
theorem sortedA (L : Lc Try.prog encXA ok lt fv (fun _ => False) (fun _ _ => True) Rg) (w : World) (p B N : Nat) (hv : Value) (E : List ((Int × Int) × Int)) (h : WlA w p B fv hv lt E N) (ho : ∀ e ∈ E, ok e.1) (hn : E.length ≤ 1000000) :
    Calls Try.prog 44 #[.pointer (some ⟨p, 0, none⟩)] w fun e w' => ∃ v', e = .returned v' ∧ w'.ownsRow w.heap.size 73 3 v' E.length (E.flatMap encEA) ∧ Fr (fun _ => False) w w' := by
  obtain ⟨A, cp, rfl⟩ := h.form
  obtain ⟨hs, h1, h2⟩ := h
  have hl := h2.len
  have hrow := h1.row
  rw [hl] at hrow
  have hpl : p < w.heap.size := h1.hd.lt
  have c1 : w.cell? ⟨p, 1, none⟩ = some (.slice A E.length cp) := (h1.hd.cell 1).trans rfl
  have HCL := Lib.hid (cloneA (w.alloc (.cells #[.pointer (some ⟨p, 0, none⟩)] 24)) B E.length _ hs (World.ownsRow.alloc hrow _) hl hn)
  have HP := Lib.hid (h1.hd.alloc (.cells #[.pointer (some ⟨p, 0, none⟩)] 24))
  have HQ := Lib.hid (Bk.made w 24 #[.pointer (some ⟨p, 0, none⟩)])
  have HK := Lib.hid h2
  have HHL := Lib.hid hl
  clear h1 h2 hl hrow
  go_enter Try.func44, Try.ntmps44
  go_wp2_with (go_at_call 48; refine HCL.out.mono ?_; rintro e w2 ⟨v2, rfl, row2, F2⟩)
  have hoh : ∀ e ∈ hs, ok e.1 := fun e he => ho e (HK.out.perm.mem_iff.1 he)
  refine (sortcA L w2 p w.heap.size _ N v2 _ _ hs E HK.out (F2.bk HP.out (fun h => h)) (F2.bk HQ.out (fun h => h)) row2 hoh hn).mono ?_
  rintro e w3 ⟨rfl, row3, F3⟩
  go_wp2
  go_ret
  refine ⟨v2, rfl, ?_, ?_⟩
  · obtain ⟨r1, r2 | ⟨g, cap, cur, rfl, hB, r3⟩⟩ := row3
    · exact ⟨r1, .inl r2⟩
    · exact ⟨r1, .inr ⟨g, cap, cur, rfl, by simp at hB; omega, r3⟩⟩
  · refine (((Fr.alloc (fun b => v2.ownBlock = some b) _ _).trans (F2.wide fun _ _ h => h.elim)).trans F3).wide fun b hb e => ?_
    have := (rw_lt row2 b e).1
    simp at this
    omega
end

end Go.Proofs.Ytnepkpcoglfejaa
