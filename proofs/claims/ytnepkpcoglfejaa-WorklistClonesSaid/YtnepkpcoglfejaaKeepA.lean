/- Keep. -/
import Derived.Test.YtnepkpcoglfejaaSortedA
import Derived.Test.YtnepkpcoglfejaaKc
namespace Go.Proofs.Ytnepkpcoglfejaa
open Go.RowKit

section
variable {ok : (Int × Int) → Prop} {lt : (Int × Int) → (Int × Int) → Bool} {fv kv : Value} {kp : (Int × Int) → Bool} {c : Nat → Prop} {S : List (Int × Int) → Value → World → Prop}
set_option maxRecDepth 100000 in
set_option maxHeartbeats 1600000 in
theorem keepA (L : Lc Try.prog encXA ok lt fv (fun _ => False) (fun _ _ => True) Rg) (K : Kc Try.prog encXA kp kv c S) (w : World) (p B N : Nat) (hv v0 : Value) (E : List ((Int × Int) × Int)) (h : WlA w p B fv hv lt E N) (ho : ∀ e ∈ E, ok e.1) (hn : E.length ≤ 100000) (hS : S [] v0 w) (hcp : ¬ c p) (hvp : v0.ownBlock ≠ some p) (hB : B ≤ p) :
    Calls Try.prog 46 #[.pointer (some ⟨p, 0, none⟩), kv] w fun e w' => e = .returned (.int .i64 (E.length - (E.filter fun e => kp e.1).length)) ∧ ∃ hv' v', WlA w' p B fv hv' lt (E.filter fun e => kp e.1) N ∧ (∀ b, hv'.ownBlock = some b → w.heap.size ≤ b) ∧ S (E.map (·.1)) v' w' ∧ Fr (fun b => c b ∨ v0.ownBlock = some b ∨ b = p) w w' := by
  obtain ⟨F, cb, rfl, eg, hcall⟩ := K.call
  have HSO := Lib.hid (sortedA L w p B N hv E h ho (by omega))
  have HC := Lib.hid hcall
  have HLC := Lib.hid L
  have HK := Lib.hid K
  have HS := Lib.hid hS
  have hpl : p < w.heap.size := h.bd.1
  have HH := Lib.hid h
  clear hcall L K hS h
  go_enter Try.func46, Try.ntmps46
  obtain ⟨n, hE⟩ : ∃ n, E.length = n := ⟨_, rfl⟩
  rw [hE] at HSO hn
  have HE := Lib.hid hE
  clear hE
  go_wp2_with (go_at_call 44; refine HSO.out.mono ?_; rintro e w1 ⟨va, rfl, ra, F1⟩; obtain ⟨A, cp, hva⟩ := rw_form ra; subst hva; have hst := Lib.hid (Kp.start HK.out (by rw [HE.out]; exact ra) HS.out F1); clear ra F1)
  go_loopw [5, 15] (fun r i wr => ∃ t v, i = .int .i64 (t : Nat) ∧ t ≤ n ∧ Hid (Kp encEA 73 3 w c S kp E v0 (.slice A n cp) t r v wr)) (fun _ i _ => n - (intOf i).toNat)
  case atStart => exact ⟨0, v0, rfl, Nat.zero_le _, hst⟩
  case round =>
    obtain ⟨t, v, rfl, ht, hP⟩ := hrel
    by_cases htn : t < n
    · obtain ⟨e, he⟩ : ∃ e, E[t]? = some e := ⟨_, List.getElem?_eq_getElem (by rw [HE.out]; omega)⟩
      have h2 := hP.out.ra
      rw [HE.out] at h2
      obtain ⟨g, rfl⟩ : ∃ g, A = some ⟨g, 0, none⟩ := by
        obtain ⟨_, ⟨_, h0⟩ | ⟨g', cap, cur, hv2, _⟩⟩ := h2
        · omega
        · injection hv2 with hv2
          exact ⟨g', hv2⟩
      obtain ⟨⟨e1, e2⟩, en⟩ := e
      have ce1 : wr.cell? ⟨g, t * 3, none⟩ = some (.int .i64 e1) := row_cell (F := encEA) (k := 3) (j := 0) (fun _ => rfl) h2 he (by decide)
      have ce2 : wr.cell? ⟨g, t * 3 + 1, none⟩ = some (.int .i64 e2) := row_cell (F := encEA) (k := 3) (j := 1) (fun _ => rfl) h2 he (by decide)
      have ce3 : wr.cell? ⟨g, t * 3 + 2, none⟩ = some (.int .i64 en) := row_cell (F := encEA) (k := 3) (j := 2) (fun _ => rfl) h2 he (by decide)
      have hgl : g < wr.heap.size := (rw_lt h2 g rfl).2
      have HP2 := Lib.hid (hP.out.grow HK.out (Fr.alloc _ wr (.cells #[.int .i64 e1, .int .i64 e2, .int .i64 en] 73)))
      have HB2 := Lib.hid (Bk.made wr 73 #[.int .i64 e1, .int .i64 e2, .int .i64 en])
      have HE2 := Lib.hid he
      have hcb := HC.out (e1, e2) ((E.take t).map (·.1)) v _ (by rw [List.length_map, List.length_take]; omega) HP2.out.st
      have hl6 : (flt E kp t).length ≤ 100000 := Nat.le_trans flt_le (by omega)
      have hws : w.heap.size ≤ wr.heap.size := hP.out.fr.size
      have HCB := Lib.hid hcb
      have HNB : Hid (∀ b, v.ownBlock = some b → b < wr.heap.size) := fun b e => HK.out.bnd hP.out.st (.inr e)
      clear h2 hP he hcb
      go_wp2_with fail
      refine HCB.out.mono ?_
      rintro e w2 ⟨rfl, v', hs2, hF2, hv2⟩
      have hb2 : Bk w2 wr.heap.size 73 #[.int .i64 e1, .int .i64 e2, .int .i64 en] := hF2.bk HB2.out (fun hx => by
        rcases hx with hx | hx
        · have := HP2.out.cb _ hx
          omega
        · exact Nat.lt_irrefl _ (HNB.out _ hx))
      cases hk : kp (e1, e2)
      · have HP3 := Lib.hid (HP2.out.no HE2.out hs2 hF2 hv2 hk)
        clear hs2 hF2 hv2 hb2
        go_wp2
        go_roundw
        case rel => exact ⟨t + 1, v', by go_num, by omega, HP3⟩
        case measure => simp [intOf]; omega
      · have ⟨hrr, hpp⟩ := HP2.out.yes HK.out HE2.out hs2 hF2 hv2 hk
        have HRR := Lib.hid hrr
        have HPP := Lib.hid hpp
        have hs2' : w.heap.size ≤ w2.heap.size := Nat.le_trans hws (Nat.le_of_lt hb2.lt)
        have hbl : wr.heap.size < w2.heap.size := hb2.lt
        have de1 : w2.cell? ⟨wr.heap.size, 0, none⟩ = some (.int .i64 e1) := (hb2.cell 0).trans rfl
        have de2 : w2.cell? ⟨wr.heap.size, 1, none⟩ = some (.int .i64 e2) := (hb2.cell 1).trans rfl
        have de3 : w2.cell? ⟨wr.heap.size, 2, none⟩ = some (.int .i64 en) := (hb2.cell 2).trans rfl
        clear hs2 hF2 hv2 hb2 hrr hpp
        generalize hl9 : (flt E kp t).length = l at *
        have HL9 := Lib.hid hl9
        clear hl9
        go_wp2_with (at_builtin; refine wpList_appS1 (w := w2) elemA rfl (.tmp 23) (.tmp 25) rfl w.heap.size u5 l ((flt E kp t).flatMap encEA) #[.int .i64 e1, .int .i64 e2, .int .i64 en] rfl rfl rfl HRR.out (by intro u hu; simp at hu; rcases hu with rfl | rfl | rfl <;> rfl) (by unfold maxLen; omega) (by omega) hs2' ?_; intro r' w3 hr3 hF3 ho3)
        have HP3 := Lib.hid (HPP.out r' w3 hr3 hF3 ho3)
        clear hr3 hF3 ho3
        go_wp2
        go_roundw
        case rel => exact ⟨t + 1, v', by go_num, by omega, HP3⟩
        case measure => simp [intOf]; omega
    · obtain rfl : t = n := by omega
      have hrr := hP.out.rr
      obtain ⟨A', c', hr⟩ := rw_form hrr
      subst hr
      have hfl := flt_all (kp := kp) (t := t) (Nat.le_of_eq HE.out)
      obtain ⟨hs, h1, h2⟩ := HH.out
      have hF := hP.out.fr
      have hb : Bk wr p 71 #[fv, hv, .int .i64 N] := hF.bk h1.hd fun hx => hx.elim hcp hvp
      have c1 : wr.cell? ⟨p, 1, none⟩ = some hv := (hb.cell 1).trans rfl
      have f1 : wr.frozen? ⟨p, 1, none⟩ = false := hb.frozen 1
      have hne := rw_ne hrr hb (by decide)
      have hle := flt_le (E := E) (kp := kp) (t := t)
      have HF := Lib.hid hF
      have HB := Lib.hid hb
      have HR := Lib.hid hrr
      have HFL := Lib.hid hfl
      have HK2 := Lib.hid (h2.kept HLC.out.ord fun e => kp e.1)
      have HNE := Lib.hid hne
      have HVO := Lib.hid hP.out.vo
      have HST := Lib.hid hP.out.st
      clear hfl hne hrr hb hF h1 h2 hP
      generalize hl9 : (flt E kp t).length = l at *
      have HL9 := Lib.hid hl9
      clear hl9
      go_wp2
      go_ret
      refine ⟨ret_int (by rw [← HFL.out, HL9.out, HE.out]), .slice A' l c', v, ⟨E.filter fun e => kp e.1, ⟨Bk.put HB.out 1 _, ?_⟩, HK2.out⟩, fun b e => (rw_lt HR.out b e).1, ?_, ?_⟩
      · have hR := HR.out
        rw [HFL.out] at hR
        have hl9 := HL9.out
        rw [HFL.out] at hl9
        rw [hl9]
        have h3 : wr.ownsRow B 73 3 (.slice A' l c') l ((E.filter fun e => kp e.1).flatMap encEA) := by
          obtain ⟨r1, r2 | ⟨g, cap, cur, e4, hB4, r3⟩⟩ := hR
          · exact ⟨r1, .inl r2⟩
          · exact ⟨r1, .inr ⟨g, cap, cur, e4, by omega, r3⟩⟩
        exact rw_keep h3 fun b e => Below.heap_setCell _ _ _ _ fun e' => HNE.out (by rw [e]; exact congrArg some e')
      · have hs9 := HST.out
        rw [List.take_of_length_le (Nat.le_of_eq HE.out)] at hs9
        refine HK.out.stay hs9 (fun b hb => Below.heap_setCell _ _ _ _ fun e' => ?_) (by simp)
        rcases hb with hb | hb
        · exact hcp ((show b = p from e') ▸ hb)
        · have e2 : b = p := e'
          subst e2
          rcases HVO.out with h9 | h9
          · exact hvp (h9 ▸ hb)
          · have := h9 b hb
            omega
      · exact (HF.out.wide fun _ _ h => h.elim .inl fun h => .inr (.inl h)).trans (Fr.set (X := fun b => c b ∨ v0.ownBlock = some b ∨ b = p) _ _ _ (.inr (.inr rfl)))
end

end Go.Proofs.Ytnepkpcoglfejaa
