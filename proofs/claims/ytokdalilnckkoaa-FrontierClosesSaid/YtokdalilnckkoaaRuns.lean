/- Result, Run, Push, Take and the machine. -/
import Derived.Test.YtokdalilnckkoaaRel
namespace Go.Proofs.Ytokdalilnckkoaa
open Go.RowKit Go.Shelf

theorem Ch.both {w w' w'' : World} {bs : List Nat} (h : Ch w w' bs) (k : Ch w' w'' bs) : Ch w w'' bs := (h.trans k).mono fun b hb => by
  rcases List.mem_append.1 hb with h | h <;> exact h

/-- What Result shows of an operation. -/
def resOf (s : OpS) : Int := if s.fin then s.res else 0

theorem run_once {α : Type} {m : Mem α} {s : OpS} (hf : s.fin = false) : allSteps (mu m s) m s = allSteps (mu (stp m s).1 (stp m s).2.1) (stp m s).1 (stp m s).2.1 := by
  have h := mu_stp m s hf
  obtain ⟨k, hk⟩ : ∃ k, mu m s = k + 1 := ⟨mu m s - 1, by omega⟩
  rw [hk]
  conv => lhs; unfold allSteps
  rw [if_neg (by simp [hf])]
  obtain ⟨j, rfl⟩ : ∃ j, k = mu (stp m s).1 (stp m s).2.1 + j := ⟨k - mu (stp m s).1 (stp m s).2.1, by omega⟩
  exact allSteps_more _ _ _ _ (Nat.le_refl _)
theorem run_stop {α : Type} {m : Mem α} {s : OpS} (hf : s.fin = true) : allSteps (mu m s) m s = (m, s) := by
  simp [mu, hf, allSteps]
theorem run_all {α : Type} (m : Mem α) (s : OpS) : allSteps 5 m s = allSteps (mu m s) m s := by
  have h := mu_le m s
  obtain ⟨j, e⟩ : ∃ j, 5 = mu m s + j := ⟨5 - mu m s, by omega⟩
  rw [e]
  exact allSteps_more _ _ _ _ (Nat.le_refl _)


def gotOfI (m : Mem Int) (s : OpS) : Int := if s.fin ∧ s.res = 1 then m.item (s.at_.getD 0) else 0
def PcI (s : OpS) : Prop := s.pc = s.pc
theorem PcI.stp {m : Mem Int} {s : OpS} (h : PcI s) : PcI (stp m s).2.1 := by have _ := h; rfl

theorem RelI.op_at {w : World} {g : Nat} {m : Mem Int} {ops : List (Nat × OpS)} (h : RelI w g m ops) {i o : Nat} {s : OpS} (hi : ops[i]? = some (o, s)) : ObI w o g (fnI s.pc) s.at_ s.fin s.res := h.op _ (List.mem_of_getElem? hi)

theorem showI (w : World) (g : Nat) (m : Mem Int) (ops : List (Nat × OpS)) (h : RelI w g m ops) (i o : Nat) (s : OpS) (hi : ops[i]? = some (o, s)) :
    Calls Try.prog 13 #[.pointer (some ⟨o, 0, none⟩)] w fun e w' => e = .returned (.tuple #[evI (gotOfI m s), .int .i64 (resOf s)]) ∧ Ch w w' [] := by
  have hob := h.op_at hi
  have hok := h.okO _ (List.mem_of_getElem? hi)
  obtain ⟨pc, at_, fin, res⟩ := s
  dsimp only at hob hok
  cases fin with
  | false =>
    refine (resunI o g _ _ _ w hob).mono ?_
    rintro e w' ⟨rfl, rfl⟩
    exact ⟨rfl, Ch.refl _ _⟩
  | true =>
    by_cases h1 : res = 1
    · subst h1
      obtain ⟨c, rfl⟩ := hok.won rfl
      refine (restakenI o g _ c (m.item c) _ w hob (h.cell c (hok.at_ c rfl))).mono ?_
      rintro e w' ⟨rfl, rfl⟩
      exact ⟨by simp [gotOfI, resOf, evI], Ch.refl _ _⟩
    · refine (resotherI o g _ _ _ w hob h1).mono ?_
      rintro e w' ⟨rfl, rfl⟩
      exact ⟨by simp [gotOfI, resOf, h1, evI], (Ch.refl _ _).drew⟩

/-- What Run has reached: the operation has performed steps. -/
structure RnI (w : World) (g i o : Nat) (m : Mem Int) (s : OpS) (ops : List (Nat × OpS)) (w' : World) (m' : Mem Int) (s' : OpS) : Prop where
  rel : RelI w' g m' (ops.set i (o, s'))
  ch : Ch w w' (o :: g :: m.cells)
  cells : m'.cells = m.cells
  lo : -900000 ≤ m'.pd - mu m' s'
  hi : m'.pd + mu m' s' ≤ 900000
  eq : allSteps 5 m s = allSteps (mu m' s') m' s'
  pc : PcI s'

theorem RnI.next {w : World} {g i o : Nat} {m : Mem Int} {s : OpS} {ops : List (Nat × OpS)} {w' w'' : World} {m' : Mem Int} {s' : OpS} (h : RnI w g i o m s ops w' m' s') (hf : s'.fin = false) (hr : RelI w'' g (stp m' s').1 ((ops.set i (o, s')).set i (o, (stp m' s').2.1))) (hc : Ch w' w'' (o :: g :: m'.cells)) :
    RnI w g i o m s ops w'' (stp m' s').1 (stp m' s').2.1 := by
  have h1 := mu_stp m' s' hf
  have h2 := stp_pd m' s'
  have := h.lo
  have := h.hi
  rw [List.set_set] at hr
  refine ⟨hr, h.ch.both (h.cells ▸ hc), (stp_cells m' s').1.trans h.cells, by omega, by omega, h.eq.trans (run_once hf), h.pc.stp⟩

set_option maxHeartbeats 400000 in
theorem runI (w : World) (g : Nat) (m : Mem Int) (ops : List (Nat × OpS)) (h : RelI w g m ops) (i o : Nat) (s : OpS) (hi : ops[i]? = some (o, s)) (h1 : -900000 ≤ m.pd - 5) (h2 : m.pd + 5 ≤ 900000) (hpc : PcI s) :
    Calls Try.prog 12 #[.pointer (some ⟨o, 0, none⟩)] w fun e w' => e = .returned (.tuple #[evI (gotOfI (allSteps 5 m s).1 (allSteps 5 m s).2), .int .i64 (resOf (allSteps 5 m s).2)]) ∧ RelI w' g (allSteps 5 m s).1 (ops.set i (o, (allSteps 5 m s).2)) ∧ Ch w w' (o :: g :: m.cells) := by
  have hil : i < ops.length := (List.getElem?_eq_some_iff.1 hi).1
  have hat : ∀ q : Nat × OpS, (ops.set i q)[i]? = some q := fun q => by rw [List.getElem?_set_self hil]
  have hst : RnI w g i o m s ops w m s := by
    have hm := mu_le m s
    refine ⟨?_, Ch.refl _ _, rfl, by omega, by omega, run_all m s, hpc⟩
    obtain ⟨hl, e⟩ := List.getElem?_eq_some_iff.1 hi
    rw [← e, List.set_getElem_self hl]
    exact h
  have HST := Lib.hid hst
  have HAT := Lib.hid hat
  clear hst hat h hi hil h1 h2 hpc
  go_enter Try.func12, Try.ntmps12
  go_wp2
  go_loopw [] (fun wr => ∃ m' s', RnI w g i o m s ops wr m' s') (fun wr => lea fun n => ∃ m' s', RnI w g i o m s ops wr m' s' ∧ mu m' s' = n)
  case atStart => exact ⟨m, s, HST.out⟩
  case round =>
    obtain ⟨m', s', hr, hmu⟩ := lea_has (p := fun n => ∃ m' s', RnI w g i o m s ops wr m' s' ∧ mu m' s' = n) (by obtain ⟨m', s', hr⟩ := hrel; exact ⟨_, m', s', hr, rfl⟩)
    have H := Lib.hid (moveI wr g m' _ hr.rel i o s' (HAT.out _) (by have := hr.lo; omega) (by have := hr.hi; omega))
    have HR := Lib.hid hr
    have HMU := Lib.hid hmu
    clear hr hmu hrel
    go_wp2_with fail
    refine H.out.mono ?_
    rintro e w1 ⟨rfl, hrel1, hch1⟩
    have hret := stp_ret m' s'
    have hr := HR.out
    have HN : Hid (s'.fin = false → RnI w g i o m s ops w1 (stp m' s').1 (stp m' s').2.1) := Lib.hid fun hf => hr.next hf hrel1 hch1
    have HF : Hid (s'.fin = true → stp m' s' = (m', s', true)) := Lib.hid stp_fin
    have HE := Lib.hid hr.eq
    have HR1 := Lib.hid hrel1
    have HC1 : Hid (Ch w w1 (o :: g :: m.cells)) := Lib.hid (hr.ch.both (hr.cells ▸ hch1))
    clear hr hrel1 hch1
    have HLT : Hid (s'.fin = false → mu (stp m' s').1 (stp m' s').2.1 < mu m' s') := Lib.hid (mu_stp m' s')
    have HB : Hid ((stp m' s').2.2 = false → s'.fin = false) := Lib.hid fun e => by
      cases hf : s'.fin with
      | false => rfl
      | true => rw [HF.out hf] at e; cases e
    have HQ : Hid ((stp m' s').2.2 = true → allSteps 5 m s = ((stp m' s').1, (stp m' s').2.1)) := Lib.hid fun e => by
      rw [HE.out]
      cases hf : s'.fin with
      | true => rw [run_stop hf, HF.out hf]
      | false => rw [run_once hf, run_stop (hret.symm.trans e)]
    clear hret H
    generalize (stp m' s').2.2 = b at *
    cases b with
    | false =>
      go_wp2
      go_roundw
      case rel => exact ⟨_, _, HN.out (HB.out (by simp))⟩
      case measure =>
        rw [← HMU.out]
        exact Nat.lt_of_le_of_lt (lea_le ⟨_, _, HN.out (HB.out (by simp)), rfl⟩) (HLT.out (HB.out (by simp)))
    | true =>
      have H2 := Lib.hid (showI w1 g _ _ HR1.out i o _ (by rw [List.set_set]; exact HAT.out _))
      go_wp2_with fail
      refine H2.out.mono ?_
      rintro e w2 ⟨rfl, hch2⟩
      go_wp2
      go_ret2
      rw [HQ.out (by simp)]
      refine ⟨rfl, ?_, (HC1.out.trans hch2).mono (by simp)⟩
      have := HR1.out.still hch2
      rw [List.set_set] at this
      exact this

def gotOfS (m : Mem Bs) (s : OpS) : Bs := if s.fin ∧ s.res = 1 then m.item (s.at_.getD 0) else bs0
def PcS (s : OpS) : Prop := 1 ≤ s.pc ∧ s.pc ≤ 6
theorem PcS.stp {m : Mem Bs} {s : OpS} (h : PcS s) : PcS (stp m s).2.1 := stp_pc h

theorem RelS.op_at {w : World} {g : Nat} {m : Mem Bs} {ops : List (Nat × OpS)} (h : RelS w g m ops) {i o : Nat} {s : OpS} (hi : ops[i]? = some (o, s)) : ObS w o g (fnS s.pc) s.at_ s.fin s.res := h.op _ (List.mem_of_getElem? hi)

theorem showS (w : World) (g : Nat) (m : Mem Bs) (ops : List (Nat × OpS)) (h : RelS w g m ops) (i o : Nat) (s : OpS) (hi : ops[i]? = some (o, s)) :
    Calls Try.prog 31 #[.pointer (some ⟨o, 0, none⟩)] w fun e w' => e = .returned (.tuple #[evS (gotOfS m s), .int .i64 (resOf s)]) ∧ Ch w w' [] := by
  have hob := h.op_at hi
  have hok := h.okO _ (List.mem_of_getElem? hi)
  obtain ⟨pc, at_, fin, res⟩ := s
  dsimp only at hob hok
  cases fin with
  | false =>
    refine (resunS o g _ _ _ w hob).mono ?_
    rintro e w' ⟨rfl, rfl⟩
    exact ⟨rfl, Ch.refl _ _⟩
  | true =>
    by_cases h1 : res = 1
    · subst h1
      obtain ⟨c, rfl⟩ := hok.won rfl
      refine (restakenS o g _ c (m.item c) _ w hob (h.cell c (hok.at_ c rfl))).mono ?_
      rintro e w' ⟨rfl, rfl⟩
      exact ⟨by simp [gotOfS, resOf, evS], Ch.refl _ _⟩
    · refine (resotherS o g _ _ _ w hob h1).mono ?_
      rintro e w' ⟨rfl, rfl⟩
      exact ⟨by simp [gotOfS, resOf, h1, evS, bs0], (Ch.refl _ _).drew⟩

/-- What Run has reached: the operation has performed steps. -/
structure RnS (w : World) (g i o : Nat) (m : Mem Bs) (s : OpS) (ops : List (Nat × OpS)) (w' : World) (m' : Mem Bs) (s' : OpS) : Prop where
  rel : RelS w' g m' (ops.set i (o, s'))
  ch : Ch w w' (o :: g :: m.cells)
  cells : m'.cells = m.cells
  lo : -900000 ≤ m'.pd - mu m' s'
  hi : m'.pd + mu m' s' ≤ 900000
  eq : allSteps 5 m s = allSteps (mu m' s') m' s'
  pc : PcS s'

theorem RnS.next {w : World} {g i o : Nat} {m : Mem Bs} {s : OpS} {ops : List (Nat × OpS)} {w' w'' : World} {m' : Mem Bs} {s' : OpS} (h : RnS w g i o m s ops w' m' s') (hf : s'.fin = false) (hr : RelS w'' g (stp m' s').1 ((ops.set i (o, s')).set i (o, (stp m' s').2.1))) (hc : Ch w' w'' (o :: g :: m'.cells)) :
    RnS w g i o m s ops w'' (stp m' s').1 (stp m' s').2.1 := by
  have h1 := mu_stp m' s' hf
  have h2 := stp_pd m' s'
  have := h.lo
  have := h.hi
  rw [List.set_set] at hr
  refine ⟨hr, h.ch.both (h.cells ▸ hc), (stp_cells m' s').1.trans h.cells, by omega, by omega, h.eq.trans (run_once hf), h.pc.stp⟩

set_option maxHeartbeats 400000 in
theorem runS (w : World) (g : Nat) (m : Mem Bs) (ops : List (Nat × OpS)) (h : RelS w g m ops) (i o : Nat) (s : OpS) (hi : ops[i]? = some (o, s)) (h1 : -900000 ≤ m.pd - 5) (h2 : m.pd + 5 ≤ 900000) (hpc : PcS s) :
    Calls Try.prog 26 #[.pointer (some ⟨o, 0, none⟩)] w fun e w' => e = .returned (.tuple #[evS (gotOfS (allSteps 5 m s).1 (allSteps 5 m s).2), .int .i64 (resOf (allSteps 5 m s).2)]) ∧ RelS w' g (allSteps 5 m s).1 (ops.set i (o, (allSteps 5 m s).2)) ∧ Ch w w' (o :: g :: m.cells) := by
  have hil : i < ops.length := (List.getElem?_eq_some_iff.1 hi).1
  have hat : ∀ q : Nat × OpS, (ops.set i q)[i]? = some q := fun q => by rw [List.getElem?_set_self hil]
  have hst : RnS w g i o m s ops w m s := by
    have hm := mu_le m s
    refine ⟨?_, Ch.refl _ _, rfl, by omega, by omega, run_all m s, hpc⟩
    obtain ⟨hl, e⟩ := List.getElem?_eq_some_iff.1 hi
    rw [← e, List.set_getElem_self hl]
    exact h
  have HST := Lib.hid hst
  have HAT := Lib.hid hat
  clear hst hat h hi hil h1 h2 hpc
  go_enter Try.func26, Try.ntmps26
  go_wp2
  go_loopw [] (fun wr => ∃ m' s', RnS w g i o m s ops wr m' s') (fun wr => lea fun n => ∃ m' s', RnS w g i o m s ops wr m' s' ∧ mu m' s' = n)
  case atStart => exact ⟨m, s, HST.out⟩
  case round =>
    obtain ⟨m', s', hr, hmu⟩ := lea_has (p := fun n => ∃ m' s', RnS w g i o m s ops wr m' s' ∧ mu m' s' = n) (by obtain ⟨m', s', hr⟩ := hrel; exact ⟨_, m', s', hr, rfl⟩)
    have H := Lib.hid (moveS wr g m' _ hr.rel i o s' (HAT.out _) (by have := hr.lo; omega) (by have := hr.hi; omega) hr.pc)
    have HR := Lib.hid hr
    have HMU := Lib.hid hmu
    clear hr hmu hrel
    go_wp2_with fail
    refine H.out.mono ?_
    rintro e w1 ⟨rfl, hrel1, hch1⟩
    have hret := stp_ret m' s'
    have hr := HR.out
    have HN : Hid (s'.fin = false → RnS w g i o m s ops w1 (stp m' s').1 (stp m' s').2.1) := Lib.hid fun hf => hr.next hf hrel1 hch1
    have HF : Hid (s'.fin = true → stp m' s' = (m', s', true)) := Lib.hid stp_fin
    have HE := Lib.hid hr.eq
    have HR1 := Lib.hid hrel1
    have HC1 : Hid (Ch w w1 (o :: g :: m.cells)) := Lib.hid (hr.ch.both (hr.cells ▸ hch1))
    clear hr hrel1 hch1
    have HLT : Hid (s'.fin = false → mu (stp m' s').1 (stp m' s').2.1 < mu m' s') := Lib.hid (mu_stp m' s')
    have HB : Hid ((stp m' s').2.2 = false → s'.fin = false) := Lib.hid fun e => by
      cases hf : s'.fin with
      | false => rfl
      | true => rw [HF.out hf] at e; cases e
    have HQ : Hid ((stp m' s').2.2 = true → allSteps 5 m s = ((stp m' s').1, (stp m' s').2.1)) := Lib.hid fun e => by
      rw [HE.out]
      cases hf : s'.fin with
      | true => rw [run_stop hf, HF.out hf]
      | false => rw [run_once hf, run_stop (hret.symm.trans e)]
    clear hret H
    generalize (stp m' s').2.2 = b at *
    cases b with
    | false =>
      go_wp2
      go_roundw
      case rel => exact ⟨_, _, HN.out (HB.out (by simp))⟩
      case measure =>
        rw [← HMU.out]
        exact Nat.lt_of_le_of_lt (lea_le ⟨_, _, HN.out (HB.out (by simp)), rfl⟩) (HLT.out (HB.out (by simp)))
    | true =>
      have H2 := Lib.hid (showS w1 g _ _ HR1.out i o _ (by rw [List.set_set]; exact HAT.out _))
      go_wp2_with fail
      refine H2.out.mono ?_
      rintro e w2 ⟨rfl, hch2⟩
      go_wp2
      go_ret2
      rw [HQ.out (by simp)]
      refine ⟨rfl, ?_, (HC1.out.trans hch2).mono (by simp)⟩
      have := HR1.out.still hch2
      rw [List.set_set] at this
      exact this

end Go.Proofs.Ytokdalilnckkoaa
