/- Reduce. -/
import Derived.Test.YtgnlbmamolbcfaaDoorRow2
import Derived.WalkMore
set_option linter.unusedVariables false
namespace Go.Proofs.YtgnlbmamolbcfaaDoor
open Go.RowKit Go.Shelf

attribute [local go_sem] Oper.semAt_some

def lists (cs : List Cv) : List (List Lit) := cs.map (·.l)
theorem lists_at {cs : List Cv} {t : Nat} {v : Cv} (h : cs[t]? = some v) : (lists cs).getD t [] = v.l := by
  rw [lists, List.getD_eq_getElem?_getD, List.getElem?_map, h]
  rfl
theorem lists_len (cs : List Cv) : (lists cs).length = cs.length := List.length_map _
theorem kill_at {cs : List Cv} {t u : Nat} {v d : Cv} (hv : cs[t]? = some v) (hd : cs[u]? = some d) (lv : v.l.length = v.n) (ld : d.l.length = d.n) : kill (lists cs) t u = (subsB d.l v.l && (decide (d.n < v.n) || decide (u < t))) := by
  unfold kill
  rw [lists_at hv, lists_at hd, lv, ld]
theorem stay0 {cs : List Cv} {t : Nat} {v : Cv} (hv : cs[t]? = some v) : stayT (lists cs) t 0 = vldB v.l := by
  unfold stayT
  rw [lists_at hv]
  simp
theorem stay_bad {cs : List Cv} {t : Nat} {v : Cv} (hv : cs[t]? = some v) (h : vldB v.l = false) (n : Nat) : stayT (lists cs) t n = false := by
  unfold stayT
  rw [lists_at hv, h, Bool.false_and]
/-- Few short clauses, nil ones empty. -/
structure Few (cs : List Cv) : Prop where
  len : cs.length ≤ 12
  short : ∀ v ∈ cs, v.n ≤ 12
  nil : ∀ v ∈ cs, v.A = none → v.n = 0 ∧ v.c = 0

set_option maxRecDepth 100000 in
set_option maxHeartbeats 4000000 in
theorem reduce_any (w : World) (R : Option Addr) (N C : Nat) (cs : List Cv) (hl : cs.length = N) (hf : Few cs) (hc : Cls w R cs) :
    Calls Tryd.prog 29 #[.slice R N C] w fun e w' => ∃ v' os, e = .returned v' ∧ lists os = redT (lists cs) N ∧ (∀ o ∈ os, o.n ≤ 12) ∧ w'.ownsRow w.heap.size 23 1 v' os.length (os.map sv) ∧ Good w.heap.size w' os ∧ Gr w w' := by
  have hN : N ≤ 12 := by rw [← hl]; exact hf.len
  have HL := Lib.hid hl
  have HF := Lib.hid hf
  have HC := Lib.hid hc
  clear hl hf hc
  have R0 : Hid (w.ownsRow w.heap.size 23 1 (.slice none 0 0) 0 (([] : List Cv).map sv)) := ⟨rfl, .inl ⟨rfl, rfl⟩⟩
  have HLL : Hid ((lists cs).length = N) := by rw [lists_len]; exact HL.out
  go_enter Tryd.func29, Tryd.ntmps29
  go_wp2
  go_step3
  go_wp2
  go_step3
  go_wp2
  go_loopw [3, 10] (fun s3 i wr => ∃ (t k : Nat) (os : List Cv), i = .int .i64 t ∧ t ≤ N ∧ k ≤ t ∧ Hid (lists os = redT (lists cs) t) ∧ Hid (∀ o ∈ os, o.n ≤ 12) ∧ Hid (wr.ownsRow w.heap.size 23 1 s3 k (os.map sv)) ∧ Hid (Good w.heap.size wr os) ∧ Hid (Gr w wr)) (fun _ i _ => N - (intOf i).toNat)
  case atStart => exact ⟨0, 0, [], rfl, Nat.zero_le _, Nat.le_refl _, rfl, (fun o ho => by cases ho), R0, (fun o ho => by cases ho), Gr.refl w⟩
  case round =>
    obtain ⟨t, k, os, rfl, ht, hk, hO, hS, hR, hD, hG⟩ := hrel
    by_cases htn : t < N
    · obtain ⟨v, hv⟩ : ∃ v, cs[t]? = some v := ⟨_, List.getElem?_eq_getElem (by rw [HL.out]; omega)⟩
      obtain ⟨ad, rfl, hb, d1, lv, lvm, lvc⟩ := HC.out.gr hG.out t v hv
      have hmv := List.mem_of_getElem? hv
      have hvn : v.n ≤ 12 := HF.out.short v hmv
      have HVN : Hid (v.A = none → v.n = 0 ∧ v.c = 0) := HF.out.nil v hmv
      have HV := Lib.hid hv
      have HLV := Lib.hid lv
      have HCV : Hid (Cs wr v.A v.l) := lvc
      have V1 := Lib.hid (valid_any wr v.A v.n v.c v.l lv lvm lvc)
      have HS0 := Lib.hid (stay0 hv)
      clear hv hb lv lvm lvc hmv
      cases hvv : vldB v.l
      · rw [hvv] at V1 HS0
        have HST : Hid (stayT (lists cs) t (lists cs).length = false) := stay_bad HV.out hvv _
        have HRD := Lib.hid (redT_no HST.out)
        clear hvv
        go_wp2_with fail
        refine V1.out.mono ?_
        rintro e w1 ⟨rfl, G1⟩
        have hG2 := Lib.hid (hG.out.trans G1)
        have hR2 := Lib.hid (rw_keep (w' := w1) hR.out fun b e => G1.fr.keep b (rw_lt hR.out b e).2 id)
        have hD2 := Lib.hid (hD.out.gr G1)
        rw [← HRD.out] at hO
        clear G1
        go_wp2
        go_roundw
        case rel => exact ⟨t + 1, k, os, by go_num, by omega, by omega, hO, hS, hR2, hD2, hG2⟩
        case measure => simp [intOf]; omega
      · rw [hvv] at V1 HS0
        clear hvv
        go_wp2_with fail
        refine V1.out.mono ?_
        rintro e w1 ⟨rfl, G1⟩
        have hG2 := Lib.hid (hG.out.trans G1)
        have hR2 := Lib.hid (rw_keep (w' := w1) hR.out fun b e => G1.fr.keep b (rw_lt hR.out b e).2 id)
        have hD2 := Lib.hid (hD.out.gr G1)
        have hCV2 := Lib.hid (HCV.out.gr G1)
        clear G1 V1
        go_wp2_with fail
        go_loopw [20] (fun i W => ∃ u : Nat, i = .int .i64 u ∧ u ≤ N ∧ Hid (stayT (lists cs) t u = true) ∧ Hid (Gr w1 W)) (fun i _ => N - (intOf i).toNat)
        case atStart => exact ⟨0, rfl, Nat.zero_le _, HS0, Gr.refl w1⟩
        case round =>
          obtain ⟨u, rfl, hu, hSU, hGU⟩ := hrel
          by_cases hun : u < N
          · obtain ⟨d, hd⟩ : ∃ d, cs[u]? = some d := ⟨_, List.getElem?_eq_getElem (by rw [HL.out]; omega)⟩
            obtain ⟨ad', e', _, d2, ld, ldm, ldc⟩ := HC.out.gr (hG2.out.trans hGU.out) u d hd
            cases e'
            have HKL := Lib.hid (kill_at HV.out hd HLV.out ld)
            by_cases hut : u = t
            · subst hut
              have hq : ((u : Int) != u) = false := by simp
              have KV : Hid (kill (lists cs) u u = false) := by rw [HKL.out]; rw [HV.out] at hd; injection hd with hd; subst hd; simp; exact ⟨⟩
              have HST : Hid (stayT (lists cs) u (u + 1) = true) := by rw [stayT_succ, hSU.out, KV.out]; exact rfl
              clear hd ld ldm ldc
              go_wp2
              go_roundw
              case rel => exact ⟨u + 1, by go_num, by omega, HST, hGU⟩
              case measure => simp [intOf]; omega
            · have hq : ((t : Int) != u) = true := by simp; omega
              have HSB := Lib.hid (subsumes_any wr d.A v.A d.n d.c v.n v.c d.l v.l ld ldm ldc HLV.out (by unfold maxLen; omega) (hCV2.out.gr hGU.out))
              have hdn : d.n ≤ 12 := HF.out.short d (List.mem_of_getElem? hd)
              clear hd ld ldm ldc hut
              go_wp2_with fail
              refine HSB.out.mono ?_
              rintro e w5 ⟨rfl, G5⟩
              have hGV := Lib.hid (hGU.out.trans G5)
              clear G5 HSB
              cases hsb : subsB d.l v.l
              · have KV : Hid (kill (lists cs) t u = false) := by rw [HKL.out, hsb]; exact rfl
                clear hsb
                have HST : Hid (stayT (lists cs) t (u + 1) = true) := by rw [stayT_succ, hSU.out, KV.out]; exact rfl
                go_wp2
                go_roundw
                case rel => exact ⟨u + 1, by go_num, by omega, HST, hGV⟩
                case measure => simp [intOf]; omega
              · by_cases hlt : d.n < v.n
                · have KV : Hid (kill (lists cs) t u = true) := by rw [HKL.out, hsb]; simp [hlt]; exact ⟨⟩
                  clear hsb
                  have HST := Lib.hid (stay_no (ls := lists cs) (i := t) (k := u) (by rw [HLL.out]; omega) KV.out)
                  have HRD := Lib.hid (redT_no HST.out)
                  have hR3 := Lib.hid (rw_keep (w' := w5) hR2.out fun b e => hGV.out.fr.keep b (rw_lt hR2.out b e).2 id)
                  have hD3 := Lib.hid (hD2.out.gr hGV.out)
                  have hG3 := Lib.hid (hG2.out.trans hGV.out)
                  rw [← HRD.out] at hO
                  go_wp2
                  go_roundw
                  case rel => exact ⟨t + 1, k, os, by go_num, by omega, by omega, hO, hS, hR3, hD3, hG3⟩
                  case measure => simp [intOf]; omega
                · by_cases hut2 : u < t
                  · have KV : Hid (kill (lists cs) t u = true) := by rw [HKL.out, hsb]; simp [hut2]; exact ⟨⟩
                    clear hsb
                    have HST := Lib.hid (stay_no (ls := lists cs) (i := t) (k := u) (by rw [HLL.out]; omega) KV.out)
                    have HRD := Lib.hid (redT_no HST.out)
                    have hR3 := Lib.hid (rw_keep (w' := w5) hR2.out fun b e => hGV.out.fr.keep b (rw_lt hR2.out b e).2 id)
                    have hD3 := Lib.hid (hD2.out.gr hGV.out)
                    have hG3 := Lib.hid (hG2.out.trans hGV.out)
                    rw [← HRD.out] at hO
                    go_wp2
                    go_roundw
                    case rel => exact ⟨t + 1, k, os, by go_num, by omega, by omega, hO, hS, hR3, hD3, hG3⟩
                    case measure => simp [intOf]; omega
                  · have KV : Hid (kill (lists cs) t u = false) := by rw [HKL.out, hsb]; simp [hlt, hut2]; exact ⟨⟩
                    clear hsb
                    have HST : Hid (stayT (lists cs) t (u + 1) = true) := by rw [stayT_succ, hSU.out, KV.out]; exact rfl
                    go_wp2
                    go_roundw
                    case rel => exact ⟨u + 1, by go_num, by omega, HST, hGV⟩
                    case measure => simp [intOf]; omega
          · obtain rfl : u = N := by omega
            have HST : Hid (stayT (lists cs) t (lists cs).length = true) := by rw [HLL.out]; exact hSU
            have HRD := Lib.hid (redT_yes HST.out)
            have HVL := Lib.hid (lists_at HV.out)
            have hR3 := Lib.hid (rw_keep (w' := wr) hR2.out fun b e => hGU.out.fr.keep b (rw_lt hR2.out b e).2 id)
            have hD3 := Lib.hid (hD2.out.gr hGU.out)
            have hG3 := Lib.hid (hG2.out.trans hGU.out)
            have HCL := Lib.hid (clone48 wr v.A v.n v.c v.l HVN.out HLV.out (by omega) (hCV2.out.gr hGU.out))
            clear hR2 hD2 hG2 hSU
            go_wp2_with fail
            refine HCL.out.mono ?_
            rintro e w5 ⟨v5, rfl, r5, G5⟩
            obtain ⟨A5, c5, rfl⟩ := rw_form r5
            have hG4 := Lib.hid (hG3.out.trans G5)
            have hR4 := Lib.hid (rw_keep (w' := w5) hR3.out fun b e => G5.fr.keep b (rw_lt hR3.out b e).2 id)
            have hD4 := Lib.hid (hD3.out.gr G5)
            have HR5 := Lib.hid (rw_base r5 hG3.out.size)
            have hsz := hG4.out.size
            clear r5 G5 HCL hR3 hD3 hG3
            go_wp2_with (at_builtin; refine wpList_appS1 (w := w5) elemR rfl (.tmp 46) (.tmp 49) rfl w.heap.size u3 k (os.map sv) #[.slice A5 v.n c5] rfl rfl rfl hR4.out (sv_one _ _ _) (by unfold maxLen; omega) (by omega) hsz ?_; intro r6 w6 hr6 hF6 _)
            have R6 : Hid (w6.ownsRow w.heap.size 23 1 r6 (k + 1) ((os ++ [(⟨A5, v.n, c5, v.l⟩ : Cv)]).map sv)) := by rw [List.map_append]; exact hr6
            have D6 : Hid (Good w.heap.size w6 (os ++ [(⟨A5, v.n, c5, v.l⟩ : Cv)])) := Good.fr (fun o ho => by
              rcases List.mem_append.1 ho with h | h
              · exact hD4.out o h
              · obtain rfl := List.mem_singleton.1 h
                exact HR5.out) hR4.out hF6
            have G6 : Hid (Gr w w6) := hG4.out.step hF6 fun b _ e => (rw_lt hR4.out b e).1
            have O6 : Hid (lists (os ++ [(⟨A5, v.n, c5, v.l⟩ : Cv)]) = redT (lists cs) (t + 1)) := by rw [HRD.out, HVL.out, lists, List.map_append]; exact congrArg (· ++ [v.l]) hO.out
            have S6 : Hid (∀ o ∈ os ++ [(⟨A5, v.n, c5, v.l⟩ : Cv)], o.n ≤ 12) := fun o ho => by
              rcases List.mem_append.1 ho with h | h
              · exact hS.out o h
              · obtain rfl := List.mem_singleton.1 h
                exact hvn
            clear hr6 hF6
            go_roundw
            case rel => exact ⟨t + 1, k + 1, _, by go_num, by omega, by omega, O6, S6, R6, D6, G6⟩
            case measure => simp [intOf]; omega
    · obtain rfl : t = N := by omega
      go_wp2
      rw [Exit.noGoto_ret]
      go_ret
      have hko : k = os.length := by
        have := hR.out.1
        rw [List.length_map] at this
        omega
      subst hko
      exact ⟨_, os, rfl, hO.out, hS.out, hR.out, hD.out, hG.out⟩
end Go.Proofs.YtgnlbmamolbcfaaDoor
