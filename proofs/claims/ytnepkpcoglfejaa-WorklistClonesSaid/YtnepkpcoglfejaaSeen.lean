/- The function that the law hands to Keep. -/
import Derived.Test.YtnepkpcoglfejaaRefK
import Derived.Test.YtnepkpcoglfejaaKeepA
set_option linter.unusedVariables false
namespace Go.Proofs.Ytnepkpcoglfejaa
open Go.RowKit Go.Sort Go.Shelf

attribute [local go_sem] Oper.semAt_some

/-- The items seen so far: a slice in the box q. -/
def Sn (B q : Nat) (pre : List (Int × Int)) (v : Value) (W : World) : Prop := Bk W q 42 #[v] ∧ W.ownsRow B 27 2 v pre.length (pre.flatMap itC) ∧ B ≤ W.heap.size

set_option maxRecDepth 100000 in
set_option maxHeartbeats 1000000 in
theorem seen_kc (B q : Nat) : Kc Try.prog encXA evn (.func (.func 47) #[] #[.pointer (some ⟨q, 0, none⟩)]) (fun b => b = q) (Sn B q) := by
  refine ⟨?_, ?_, 47, _, rfl, enters_of Try.func47 (by kernel_rfl) rfl, ?_⟩
  · rintro pre v W W' ⟨h1, h2, h3⟩ hk hs
    exact ⟨h1.keep (hk q (.inl rfl)), rw_keep h2 fun b e => hk b (.inr e), Nat.le_trans h3 hs⟩
  · rintro pre v W b ⟨h1, h2, h3⟩ (rfl | e)
    · exact h1.lt
    · exact (rw_lt h2 b e).2
  · rintro ⟨x1, x2⟩ pre v W hl ⟨h1, h2, h3⟩
    change Calls Try.prog 47 #[.agg #[.int .i64 x1, .int .i64 x2], .pointer (some ⟨q, 0, none⟩)] W _
    have hql : q < W.heap.size := h1.lt
    have hvq : v.ownBlock ≠ some q := rw_ne h2 h1 (by decide)
    have k1 : Bk (W.alloc (.cells #[.int .i64 x1, .int .i64 x2] 27)) q 42 #[v] := h1.alloc _
    have c1 : W.cell? ⟨q, 0, none⟩ = some v := (h1.cell 0).trans rfl
    have HRO := Lib.hid (World.ownsRow.alloc h2 (.cells #[.int .i64 x1, .int .i64 x2] 27))
    have HB : B ≤ (W.alloc (.cells #[.int .i64 x1, .int .i64 x2] 27)).heap.size := by simp; omega
    have H1 := Lib.hid k1
    have H2 := Lib.hid h2
    have hbx := Lib.hid (Bk.made W 27 #[.int .i64 x1, .int .i64 x2])
    have HV := Lib.hid hvq
    obtain ⟨A, cp, hv⟩ := rw_form h2
    subst hv
    clear h1 h2 k1 hvq
    generalize hol' : pre.length = ol at *
    have HOL := Lib.hid hol'
    clear hol'
    go_enter Try.func47, Try.ntmps47
    go_wp2_with (at_builtin; refine wpList_appS1 (w := W.alloc (.cells #[.int .i64 x1, .int .i64 x2] 27)) elemR rfl (.tmp 4) (.tmp 6) rfl B (.slice A ol cp) ol (pre.flatMap itC) #[.int .i64 x1, .int .i64 x2] rfl (congrArg (fun k => Value.slice (some ⟨k, 0, none⟩) 1 1) (World.size_alloc W _).symm) rfl HRO.out (by intro u hu; simp at hu; rcases hu with rfl | rfl <;> rfl) (by unfold maxLen; omega) (by omega) HB ?_; intro v8 w8 hr8 hF8 ho8; have k8 : Bk w8 q 42 #[.slice A ol cp] := hF8.bk H1.out HV.out; have c8 : w8.cell? ⟨q, 0, none⟩ = some (.slice A ol cp) := (k8.cell 0).trans rfl; have f8 := k8.frozen 0; have b8 : Bk w8 W.heap.size 27 #[.int .i64 x1, .int .i64 x2] := hF8.bk hbx.out (fun e => by have := (rw_lt H2.out _ e).2; omega); have d8 : w8.cell? ⟨W.heap.size, 1, none⟩ = some (.int .i64 x2) := (b8.cell 1).trans rfl; have hne8 : W.heap.size ≠ q := (by omega); obtain ⟨A8, c8', hv8⟩ := rw_form hr8; subst hv8; have HR8 := Lib.hid hr8; have HF8 := Lib.hid hF8; have HO8 := Lib.hid ho8; have K8 := Lib.hid k8; clear hr8 hF8 ho8 k8 b8)
    go_ret
    refine ⟨rfl, .slice A8 (ol + 1) c8', ⟨Bk.put K8.out 0 _, ?_, ?_⟩, ?_, ?_⟩
    · have h9 : w8.ownsRow B 27 2 (.slice A8 (ol + 1) c8') (pre ++ [(x1, x2)]).length ((pre ++ [(x1, x2)]).flatMap itC) := by
        rw [List.length_append, HOL.out, List.flatMap_append]
        simpa [itC] using HR8.out
      exact rw_keep h9 fun b e => Below.heap_setCell _ _ _ _ fun e' => rw_ne h9 K8.out (by decide) (by rw [e]; exact congrArg some e')
    · have := HF8.out.size
      simp at this ⊢
      omega
    · exact (((Fr.alloc _ _ _).trans (HF8.out.wide fun _ _ h => .inr h)).trans (Fr.set (X := fun b => b = q ∨ (Value.slice A ol cp).ownBlock = some b) _ _ _ (.inl rfl)))
    · exact HO8.out.imp_right fun h b e => by have := h b e; simp at this; omega
end Go.Proofs.Ytnepkpcoglfejaa
