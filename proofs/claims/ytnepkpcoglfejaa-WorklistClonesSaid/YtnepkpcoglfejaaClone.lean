/- Clone of a list of items. -/
import Derived.Test.YtnepkpcoglfejaaEnv
import Derived.Test.YtnepkpcoglfejaaCloA
import Derived.Deep.RegionHeld3
import Derived.Deep.DeepCutAuto
set_option linter.unusedVariables false
namespace Go.Proofs.Ytnepkpcoglfejaa
open Go.RowKit Go.Sort Go.Shelf

attribute [local go_sem] Oper.semAt_some

set_option maxRecDepth 100000 in
set_option maxHeartbeats 2000000 in
theorem e_cloneA {w0 w : World} {p N : Nat} {hv : Value} {E : List ((Int × Int) × Int)} (h : EnA w0 w p hv E N) (hl : E.length ≤ 1000) :
    Calls Try.prog 25 #[.pointer (some ⟨p, 0, none⟩)] w fun e w' => ∃ q hv', e = .returned (.pointer (some ⟨q, 0, none⟩)) ∧ EnA w0 w' q hv' E N ∧ w.heap.size ≤ q ∧ (∀ b, hv'.ownBlock = some b → w.heap.size ≤ b) ∧ Fr (fun _ => False) w w' := by
  obtain ⟨hs, h1, h2⟩ := h.wl
  have hlen := h2.len
  have hrow := h1.row
  have hd := h1.hd
  have hpl : p < w.heap.size := hd.lt
  have c0 : w.cell? ⟨p, 0, none⟩ = some (.func (.func 11) #[] #[]) := (hd.cell 0).trans rfl
  have c1 : w.cell? ⟨p, 1, none⟩ = some hv := (hd.cell 1).trans rfl
  have c2 : w.cell? ⟨p, 2, none⟩ = some (.int .i64 N) := (hd.cell 2).trans rfl
  have HCL : Hid (Calls Try.prog 48 #[hv] w.drew fun e w' => ∃ A' c', e = .returned (.slice A' hs.length c') ∧ (w'.ownsRow w.heap.size 73 3 (.slice A' hs.length c') hs.length (hs.flatMap encEA) ∧ Fr (fun _ => False) w w') ∧ w'.cell? ⟨p, 0, none⟩ = some (.func (.func 11) #[] #[]) ∧ w'.cell? ⟨p, 1, none⟩ = some hv ∧ w'.cell? ⟨p, 2, none⟩ = some (.int .i64 N)) := by
    refine (cloneA w.drew w0.heap.size hs.length hv hs (rw_keep hrow fun _ _ => rfl) rfl (by omega)).mono ?_
    rintro e w' ⟨v', rfl, hr, hF⟩
    have hF' : Fr (fun _ => False) w w' := (Fr.drew _ _).trans hF
    have hb := hF'.bk hd id
    obtain ⟨A', c', hv'⟩ := rw_form hr
    subst hv'
    exact ⟨A', c', rfl, ⟨hr, hF'⟩, (hb.cell 0).trans rfl, (hb.cell 1).trans rfl, (hb.cell 2).trans rfl⟩
  have HE := Lib.hid h
  have HK := Lib.hid h2
  obtain ⟨A, cp, hhv⟩ := rw_form hrow
  subst hhv
  have HLE := Lib.hid hlen
  clear h1 h2 hrow hd h hlen
  generalize hll : hs.length = l at *
  have HLL := Lib.hid hll
  clear hll
  go_enter Try.func25, Try.ntmps25
  go_wp2_with fail
  go_region_held3 (fun W => W.cell? ⟨p, 0, none⟩ = some (.func (.func 11) #[] #[]) ∧ W.cell? ⟨p, 1, none⟩ = some (.slice A l cp) ∧ W.cell? ⟨p, 2, none⟩ = some (.int .i64 N)) (first | go_keep | exact ⟨‹_›, ‹_›, ‹_›⟩) (first | (go_at_call 48; refine HCL.out.mono ?_; rintro e w3 ⟨A3, c3, rfl, hrr, k0, k1, k2⟩))
  obtain ⟨hr3, F3⟩ := hrr
  have H3 := Lib.hid hr3
  have HF3 := Lib.hid F3
  clear hr3 F3 k0 k1 k2 c0 c1 c2
  go_wp2
  go_ret
  have hF : Fr (fun _ => False) w (w3.alloc (.cells #[.func (.func 11) #[] #[], .slice A3 l c3, .int .i64 N] 71)) := HF3.out.trans (Fr.alloc _ _ _)
  have hsz := HF3.out.size
  have hg := HE.out.gr
  have hw0 := hg.size
  refine ⟨w3.heap.size, .slice A3 l c3, rfl, ⟨⟨hs, ⟨Bk.made _ _ _, ?_⟩, HK.out⟩, hg.no hF, by omega⟩, hsz, fun b e => (rw_lt H3.out b e).1, hF⟩
  rw [HLL.out]
  have h9 := World.ownsRow.alloc H3.out (.cells #[.func (.func 11) #[] #[], .slice A3 l c3, .int .i64 N] 71)
  obtain ⟨r1, r2 | ⟨g, cap, cur, e4, hB4, r3⟩⟩ := h9
  · exact ⟨r1, .inl r2⟩
  · exact ⟨r1, .inr ⟨g, cap, cur, e4, by omega, r3⟩⟩
end Go.Proofs.Ytnepkpcoglfejaa
