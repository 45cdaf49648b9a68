/- The machine and the memory: every step keeps them together. -/
import Derived.Test.YtokdalilnckkoaaMach
import Derived.Test.YtokdalilnckkoaaMakeI
import Derived.Test.YtokdalilnckkoaaLen
namespace Go.Proofs.Ytokdalilnckkoaa
open Go.RowKit Go.Shelf

theorem Ch.keep {w w' : World} {bs : List Nat} {b t : Nat} {cs : Array Value} (h : Ch w w' bs) (hk : Bk w b t cs) (hb : b ∉ bs) : Bk w' b t cs := hk.keep (h.block b hb)

theorem nodup_inj {l : List Nat} (h : l.Nodup) {i j : Nat} {hi : i < l.length} {hj : j < l.length} (e : l[i] = l[j]) : i = j := by
  have h' := List.pairwise_iff_getElem.1 h
  rcases Nat.lt_trichotomy i j with hlt | rfl | hlt
  · exact absurd e (h' i j hi hj hlt)
  · rfl
  · exact absurd e.symm (h' j i hj hi hlt)


def fnI : Nat → Nat
  | 1 => 33
  | 2 => 48
  | 3 => 57
  | 4 => 34
  | 5 => 49
  | 6 => 50
  | _ => 39

def evI (x : Int) : Value := .int .i64 x

structure RelI (w : World) (g : Nat) (m : Mem Int) (ops : List (Nat × OpS)) : Prop where
  fr : FrI w g m.top m.pd
  cell : ∀ c ∈ m.cells, ClI w c (evI (m.item c)) (m.below c)
  op : ∀ p ∈ ops, ObI w p.1 g (fnI p.2.pc) p.2.at_ p.2.fin p.2.res
  okM : OkM m
  okO : ∀ p ∈ ops, OkO m p.2
  nd : (ops.map Prod.fst).Nodup

section
variable {w w' : World} {g : Nat} {m m' : Mem Int} {ops : List (Nat × OpS)} {i o : Nat} {s s' : OpS}
theorem RelI.pt (h : RelI w g m ops) {p : Option Nat} (hp : On m.cells p) : PtI w p := fun c e => ⟨_, _, h.cell c (hp c e)⟩
theorem RelI.og (h : RelI w g m ops) {p : Nat × OpS} (hp : p ∈ ops) : p.1 ≠ g := Bk.ne (h.op p hp) h.fr (by decide)
theorem RelI.cg (h : RelI w g m ops) {c : Nat} (hc : c ∈ m.cells) : c ≠ g := Bk.ne (h.cell c hc) h.fr (by decide)
theorem RelI.co (h : RelI w g m ops) {c : Nat} (hc : c ∈ m.cells) {p : Nat × OpS} (hp : p ∈ ops) : c ≠ p.1 := Bk.ne (h.cell c hc) (h.op p hp) (by decide)
theorem RelI.keep (h : RelI w g m ops) {bs : List Nat} (hc : Ch w w' bs) (hg : g ∉ bs) (hcs : ∀ c ∈ m.cells, c ∉ bs) (ho : ∀ p ∈ ops, p.1 ∉ bs) : RelI w' g m ops :=
  ⟨hc.keep h.fr hg, fun c hm => hc.keep (h.cell c hm) (hcs c hm), fun p hp => hc.keep (h.op p hp) (ho p hp), h.okM, h.okO, h.nd⟩
theorem RelI.still (h : RelI w g m ops) (hc : Ch w w' []) : RelI w' g m ops := h.keep hc (by simp) (by simp) (by simp)
theorem RelI.below (h : RelI w g m ops) (hb : Below w.heap.size w w') : RelI w' g m ops :=
  ⟨Bk.below h.fr hb (Bk.lt h.fr), fun c hm => Bk.below (h.cell c hm) hb (Bk.lt (h.cell c hm)), fun p hp => Bk.below (h.op p hp) hb (Bk.lt (h.op p hp)), h.okM, h.okO, h.nd⟩

theorem RelI.after (h : RelI w g m ops) (hi : ops[i]? = some (o, s)) (hch : Ch w w' (o :: g :: m.cells)) (hfr : FrI w' g m'.top m'.pd) (hob : ObI w' o g (fnI s'.pc) s'.at_ s'.fin s'.res)
    (hcells : m'.cells = m.cells) (hitem : m'.item = m.item) (hcl : ∀ c ∈ m.cells, ClI w' c (evI (m.item c)) (m'.below c)) (hm : OkM m') (ho : OkO m' s') : RelI w' g m' (ops.set i (o, s')) := by
  have hil : i < ops.length := (List.getElem?_eq_some_iff.1 hi).1
  have hmem : (o, s) ∈ ops := List.mem_of_getElem? hi
  refine ⟨hfr, fun c hc => ?_, fun p hp => ?_, hm, fun p hp => ?_, ?_⟩
  · rw [hcells] at hc
    rw [hitem]
    exact hcl c hc
  · obtain ⟨j, hj, rfl⟩ := List.mem_iff_getElem.1 hp
    rw [List.length_set] at hj
    rw [List.getElem_set]
    split
    · exact hob
    · rename_i hne
      refine hch.keep (h.op _ (List.getElem_mem hj)) ?_
      simp only [List.mem_cons, not_or]
      refine ⟨fun e => hne ?_, h.og (List.getElem_mem hj), fun hc => h.co hc (List.getElem_mem hj) rfl⟩
      have h1 : (ops.map Prod.fst)[i]'(by simpa using hil) = (ops.map Prod.fst)[j]'(by simpa using hj) := by
        simp only [List.getElem_map]
        rw [e, (List.getElem?_eq_some_iff.1 hi).2]
      exact nodup_inj h.nd h1
  · have : ∀ q : OpS, OkO m q → OkO m' q := fun q hq => ⟨by rw [hcells]; exact hq.at_, hq.has, hq.zero, hq.won⟩
    rcases List.mem_or_eq_of_mem_set hp with hp | rfl
    · exact this _ (h.okO p hp)
    · exact ho
  · have : (ops.set i (o, s')).map Prod.fst = ops.map Prod.fst := by
      rw [List.map_set]
      have e : (ops.map Prod.fst)[i]? = some o := by rw [List.getElem?_map, hi]; rfl
      obtain ⟨hl, e⟩ := List.getElem?_eq_some_iff.1 e
      conv => rhs; rw [← List.set_getElem_self hl]
      rw [e]
    rw [this]
    exact h.nd

theorem RelI.stepped (h : RelI w g m ops) (hi : ops[i]? = some (o, s)) {K : Nat} {bs : List Nat} {b fin : Bool} {at_ top : Option Nat} {res pd : Int} {w1 : World} {e : Ending} (hbs : ∀ x ∈ bs, x ∈ o :: g :: m.cells) (hp : PoI w o g bs b K at_ fin res top pd e w1)
    (hK : fnI s'.pc = K) (hat : s'.at_ = at_) (hfin : s'.fin = b) (hres : s'.res = res) (htop : m'.top = top) (hpd : m'.pd = pd) (hcells : m'.cells = m.cells) (hitem : m'.item = m.item)
    (hcl : ∀ c ∈ m.cells, ClI w1 c (evI (m.item c)) (m'.below c)) (hm : OkM m') (ho : OkO m' s') : RelI (w1.setCell ⟨o, 3, none⟩ (.bool b)) g m' (ops.set i (o, s')) ∧ Ch w (w1.setCell ⟨o, 3, none⟩ (.bool b)) (o :: g :: m.cells) := by
  have hmem : (o, s) ∈ ops := List.mem_of_getElem? hi
  have hch : Ch w (w1.setCell ⟨o, 3, none⟩ (.bool b)) (o :: g :: m.cells) := (hp.ch.mono hbs).set (by simp) _
  refine ⟨h.after hi hch ?_ ?_ hcells hitem (fun c hc => Bk.other (hcl c hc) (h.co hc hmem) _) hm ho, hch⟩
  · rw [htop, hpd]
    exact Bk.other hp.fr (fun e => h.og hmem e.symm) _
  · rw [hK, hat, hfin, hres]
    exact Bk.put hp.op 3 _
end

theorem egI (pc : Nat)  (args : Array Value) (W : World) : (callFunc (fnI pc) args).run Try.prog W = .ok (.enter (fnI pc) args) W := by
  match pc with
  | 0 => exact enters_of Try.func39 (by kernel_rfl) rfl args W
  | 1 => exact enters_of Try.func33 (by kernel_rfl) rfl args W
  | 2 => exact enters_of Try.func48 (by kernel_rfl) rfl args W
  | 3 => exact enters_of Try.func57 (by kernel_rfl) rfl args W
  | 4 => exact enters_of Try.func34 (by kernel_rfl) rfl args W
  | 5 => exact enters_of Try.func49 (by kernel_rfl) rfl args W
  | 6 => exact enters_of Try.func50 (by kernel_rfl) rfl args W
  | n + 7 => exact enters_of Try.func39 (by kernel_rfl) rfl args W

/-- One step of an operation. -/
theorem moveI (w : World) (g : Nat) (m : Mem Int) (ops : List (Nat × OpS)) (h : RelI w g m ops) (i o : Nat) (s : OpS) (hi : ops[i]? = some (o, s)) (h1 : -900000 ≤ m.pd) (h2 : m.pd ≤ 900000) :
    Calls Try.prog 11 #[.pointer (some ⟨o, 0, none⟩)] w fun e w' => e = .returned (.bool (stp m s).2.2) ∧ RelI w' g (stp m s).1 (ops.set i (o, (stp m s).2.1)) ∧ Ch w w' (o :: g :: m.cells) := by
  have hmem : (o, s) ∈ ops := List.mem_of_getElem? hi
  have hob := h.op _ hmem
  have hoM := stp_okM h.okM (h.okO _ hmem)
  have hoO := stp_okO h.okM (h.okO _ hmem)
  have hok := h.okO _ hmem
  have hfr := h.fr
  have ht := h.pt h.okM.top
  obtain ⟨pc, at_, fin, res⟩ := s
  dsimp only at hob hok hoM hoO 
  cases fin with
  | true =>
    refine (stepfinI o g _ at_ res w hob).mono ?_
    rintro e w' ⟨rfl, rfl⟩
    refine ⟨rfl, ?_, Ch.refl _ _⟩
    have e : ops.set i (o, ⟨pc, at_, true, res⟩) = ops := by
      obtain ⟨hl, e⟩ := List.getElem?_eq_some_iff.1 hi
      conv => rhs; rw [← List.set_getElem_self hl]
      rw [e]
    simpa [stp, e] using h
  | false =>
    have other : ∀ {w1 : World} {bs : List Nat}, Ch w w1 [o, g] → ∀ c ∈ m.cells, ClI w1 c (evI (m.item c)) (m.below c) := fun hch c hc => hch.keep (h.cell c hc) (by simp [h.co hc hmem, h.cg hc])
    match pc with
    | 1 =>
      refine (stepI o g _ at_ res w hob _ (egI 1 ) (beginI o g _ at_ m.top res m.pd w hob hfr (by omega) (by omega)) (fun e w' hp => ⟨_, _, _, _, hp.ret, hp.op⟩)).mono ?_
      rintro e w' ⟨b, w1, hp, rfl, rfl⟩
      have hb := hp.ret
      simp only [Ending.returned.injEq, Value.bool.injEq] at hb
      subst hb
      exact ⟨rfl, h.stepped hi (by simp) hp rfl rfl rfl rfl rfl rfl rfl rfl (other (bs := []) hp.ch) hoM hoO⟩
    | 2 =>
      obtain ⟨c, rfl⟩ := hok.has (by simp)
      have hcm : c ∈ m.cells := hok.at_ c rfl
      refine (stepI o g _ _ res w hob _ (egI 2 ) (readI o g _ c m.top (m.below c) _ res m.pd w hob hfr (h.cell c hcm) ht) (fun e w' hp => ⟨_, _, _, _, hp.1.ret, hp.1.op⟩)).mono ?_
      rintro e w' ⟨b, w1, ⟨hp, hcl⟩, rfl, rfl⟩
      have hb := hp.ret
      simp only [Ending.returned.injEq, Value.bool.injEq] at hb
      subst hb
      have e : stp m ⟨2, some c, false, res⟩ = ({ m with below := upd m.below c m.top }, ⟨3, some c, false, res⟩, false) := rfl
      rw [e] at hoM hoO ⊢
      refine ⟨rfl, h.stepped hi (by simp [hcm]) hp rfl rfl rfl rfl rfl rfl rfl rfl (fun d hd => ?_) hoM hoO⟩
      dsimp only
      by_cases hdc : d = c
      · subst hdc
        rw [upd_same]
        exact hcl
      · rw [upd_other _ _ hdc]
        exact hp.ch.keep (h.cell d hd) (by simp [h.co hd hmem, hdc])
    | 3 =>
      obtain ⟨c, rfl⟩ := hok.has (by simp)
      have hcm : c ∈ m.cells := hok.at_ c rfl
      refine (stepI o g _ _ res w hob _ (egI 3 ) (putI o g _ c m.top (m.below c) _ res m.pd w hob hfr (h.cell c hcm) ht (h.pt (h.okM.below c hcm))) (fun e w' hp => ⟨_, _, _, _, hp.ret, hp.op⟩)).mono ?_
      rintro e w' ⟨b, w1, hp, rfl, rfl⟩
      have hb := hp.ret
      simp only [Ending.returned.injEq, Value.bool.injEq] at hb
      subst hb
      by_cases ht : m.top = m.below c
      · simp only [ht, if_true, decide_true] at hp ⊢
        have e : stp m ⟨3, some c, false, res⟩ = ({ m with top := some c }, ⟨2, some c, true, res⟩, true) := by simp [stp, ht]
        rw [e] at hoM hoO ⊢
        exact ⟨rfl, h.stepped hi (by simp) hp rfl rfl rfl rfl rfl rfl rfl rfl (other (bs := []) hp.ch) hoM hoO⟩
      · simp only [ht, if_false, decide_false] at hp ⊢
        have e : stp m ⟨3, some c, false, res⟩ = (m, ⟨2, some c, false, res⟩, false) := by simp [stp, ht]
        rw [e] at hoM hoO ⊢
        exact ⟨rfl, h.stepped hi (by simp) hp rfl rfl rfl rfl rfl rfl rfl rfl (other (bs := []) hp.ch) hoM hoO⟩
    | 4 =>
      refine (stepI o g _ at_ res w hob _ (egI 4 ) (lookI o g _ at_ m.top res m.pd w hob hfr ht) (fun e w' hp => ⟨_, _, _, _, hp.ret, hp.op⟩)).mono ?_
      rintro e w' ⟨b, w1, hp, rfl, rfl⟩
      have hb := hp.ret
      simp only [Ending.returned.injEq, Value.bool.injEq] at hb
      subst hb
      refine ⟨rfl, h.stepped hi (by simp) hp ?_ rfl rfl rfl rfl rfl rfl rfl (other (bs := []) hp.ch) hoM hoO⟩
      by_cases ht : m.top = none <;> simp [stp, ht, fnI]
    | 5 =>
      obtain ⟨c, rfl⟩ := hok.has (by simp)
      have hcm : c ∈ m.cells := hok.at_ c rfl
      refine (stepI o g _ _ res w hob _ (egI 5 ) (cutI o g _ c m.top (m.below c) _ res m.pd w hob hfr (h.cell c hcm) ht (h.pt (h.okM.below c hcm))) (fun e w' hp => ⟨_, _, _, _, hp.ret, hp.op⟩)).mono ?_
      rintro e w' ⟨b, w1, hp, rfl, rfl⟩
      have hb := hp.ret
      simp only [Ending.returned.injEq, Value.bool.injEq] at hb
      subst hb
      by_cases ht : m.top = some c
      · simp only [ht, if_true, decide_true] at hp ⊢
        have e : stp m ⟨5, some c, false, res⟩ = ({ m with top := m.below c }, ⟨4, some c, true, 1⟩, true) := by simp [stp, ht]
        rw [e] at hoM hoO ⊢
        exact ⟨rfl, h.stepped hi (by simp) hp rfl rfl rfl rfl rfl rfl rfl rfl (other (bs := []) hp.ch) hoM hoO⟩
      · simp only [ht, if_false, decide_false] at hp ⊢
        have e : stp m ⟨5, some c, false, res⟩ = (m, ⟨4, some c, false, res⟩, false) := by simp [stp, ht]
        rw [e] at hoM hoO ⊢
        exact ⟨rfl, h.stepped hi (by simp) hp rfl rfl rfl rfl rfl rfl rfl rfl (other (bs := []) hp.ch) hoM hoO⟩
    | 6 =>
      refine (stepI o g _ at_ res w hob _ (egI 6 ) (countI o g _ at_ m.top res m.pd w hob hfr) (fun e w' hp => ⟨_, _, _, _, hp.ret, hp.op⟩)).mono ?_
      rintro e w' ⟨b, w1, hp, rfl, rfl⟩
      have hb := hp.ret
      simp only [Ending.returned.injEq, Value.bool.injEq] at hb
      subst hb
      exact ⟨rfl, h.stepped hi (by simp) hp rfl rfl rfl rfl rfl rfl rfl rfl (other (bs := []) hp.ch) hoM hoO⟩
    | 0 =>
      refine (stepI o g _ at_ res w hob _ (egI (0)) (reportI o g _ at_ m.top res m.pd w hob hfr (by omega) (by omega)) (fun e w' hp => ⟨_, _, _, _, hp.ret, hp.op⟩)).mono ?_
      rintro e w' ⟨b, w1, hp, rfl, rfl⟩
      have hb := hp.ret
      simp only [Ending.returned.injEq, Value.bool.injEq] at hb
      subst hb
      exact ⟨rfl, h.stepped hi (by simp) hp rfl rfl rfl rfl rfl rfl rfl rfl (other (bs := []) hp.ch) hoM hoO⟩
    | n + 7 =>
      refine (stepI o g _ at_ res w hob _ (egI (n + 7)) (reportI o g _ at_ m.top res m.pd w hob hfr (by omega) (by omega)) (fun e w' hp => ⟨_, _, _, _, hp.ret, hp.op⟩)).mono ?_
      rintro e w' ⟨b, w1, hp, rfl, rfl⟩
      have hb := hp.ret
      simp only [Ending.returned.injEq, Value.bool.injEq] at hb
      subst hb
      exact ⟨rfl, h.stepped hi (by simp) hp rfl rfl rfl rfl rfl rfl rfl rfl (other (bs := []) hp.ch) hoM hoO⟩

def fnS : Nat → Nat
  | 1 => 43
  | 2 => 53
  | 3 => 59
  | 4 => 46
  | 5 => 54
  | 6 => 55
  | _ => 0

def evS (x : Bs) : Value := .string x.1

structure RelS (w : World) (g : Nat) (m : Mem Bs) (ops : List (Nat × OpS)) : Prop where
  fr : FrS w g m.top m.pd
  cell : ∀ c ∈ m.cells, ClS w c (evS (m.item c)) (m.below c)
  op : ∀ p ∈ ops, ObS w p.1 g (fnS p.2.pc) p.2.at_ p.2.fin p.2.res
  okM : OkM m
  okO : ∀ p ∈ ops, OkO m p.2
  nd : (ops.map Prod.fst).Nodup

section
variable {w w' : World} {g : Nat} {m m' : Mem Bs} {ops : List (Nat × OpS)} {i o : Nat} {s s' : OpS}
theorem RelS.pt (h : RelS w g m ops) {p : Option Nat} (hp : On m.cells p) : PtS w p := fun c e => ⟨_, _, h.cell c (hp c e)⟩
theorem RelS.og (h : RelS w g m ops) {p : Nat × OpS} (hp : p ∈ ops) : p.1 ≠ g := Bk.ne (h.op p hp) h.fr (by decide)
theorem RelS.cg (h : RelS w g m ops) {c : Nat} (hc : c ∈ m.cells) : c ≠ g := Bk.ne (h.cell c hc) h.fr (by decide)
theorem RelS.co (h : RelS w g m ops) {c : Nat} (hc : c ∈ m.cells) {p : Nat × OpS} (hp : p ∈ ops) : c ≠ p.1 := Bk.ne (h.cell c hc) (h.op p hp) (by decide)
theorem RelS.keep (h : RelS w g m ops) {bs : List Nat} (hc : Ch w w' bs) (hg : g ∉ bs) (hcs : ∀ c ∈ m.cells, c ∉ bs) (ho : ∀ p ∈ ops, p.1 ∉ bs) : RelS w' g m ops :=
  ⟨hc.keep h.fr hg, fun c hm => hc.keep (h.cell c hm) (hcs c hm), fun p hp => hc.keep (h.op p hp) (ho p hp), h.okM, h.okO, h.nd⟩
theorem RelS.still (h : RelS w g m ops) (hc : Ch w w' []) : RelS w' g m ops := h.keep hc (by simp) (by simp) (by simp)
theorem RelS.below (h : RelS w g m ops) (hb : Below w.heap.size w w') : RelS w' g m ops :=
  ⟨Bk.below h.fr hb (Bk.lt h.fr), fun c hm => Bk.below (h.cell c hm) hb (Bk.lt (h.cell c hm)), fun p hp => Bk.below (h.op p hp) hb (Bk.lt (h.op p hp)), h.okM, h.okO, h.nd⟩

theorem RelS.after (h : RelS w g m ops) (hi : ops[i]? = some (o, s)) (hch : Ch w w' (o :: g :: m.cells)) (hfr : FrS w' g m'.top m'.pd) (hob : ObS w' o g (fnS s'.pc) s'.at_ s'.fin s'.res)
    (hcells : m'.cells = m.cells) (hitem : m'.item = m.item) (hcl : ∀ c ∈ m.cells, ClS w' c (evS (m.item c)) (m'.below c)) (hm : OkM m') (ho : OkO m' s') : RelS w' g m' (ops.set i (o, s')) := by
  have hil : i < ops.length := (List.getElem?_eq_some_iff.1 hi).1
  have hmem : (o, s) ∈ ops := List.mem_of_getElem? hi
  refine ⟨hfr, fun c hc => ?_, fun p hp => ?_, hm, fun p hp => ?_, ?_⟩
  · rw [hcells] at hc
    rw [hitem]
    exact hcl c hc
  · obtain ⟨j, hj, rfl⟩ := List.mem_iff_getElem.1 hp
    rw [List.length_set] at hj
    rw [List.getElem_set]
    split
    · exact hob
    · rename_i hne
      refine hch.keep (h.op _ (List.getElem_mem hj)) ?_
      simp only [List.mem_cons, not_or]
      refine ⟨fun e => hne ?_, h.og (List.getElem_mem hj), fun hc => h.co hc (List.getElem_mem hj) rfl⟩
      have h1 : (ops.map Prod.fst)[i]'(by simpa using hil) = (ops.map Prod.fst)[j]'(by simpa using hj) := by
        simp only [List.getElem_map]
        rw [e, (List.getElem?_eq_some_iff.1 hi).2]
      exact nodup_inj h.nd h1
  · have : ∀ q : OpS, OkO m q → OkO m' q := fun q hq => ⟨by rw [hcells]; exact hq.at_, hq.has, hq.zero, hq.won⟩
    rcases List.mem_or_eq_of_mem_set hp with hp | rfl
    · exact this _ (h.okO p hp)
    · exact ho
  · have : (ops.set i (o, s')).map Prod.fst = ops.map Prod.fst := by
      rw [List.map_set]
      have e : (ops.map Prod.fst)[i]? = some o := by rw [List.getElem?_map, hi]; rfl
      obtain ⟨hl, e⟩ := List.getElem?_eq_some_iff.1 e
      conv => rhs; rw [← List.set_getElem_self hl]
      rw [e]
    rw [this]
    exact h.nd

theorem RelS.stepped (h : RelS w g m ops) (hi : ops[i]? = some (o, s)) {K : Nat} {bs : List Nat} {b fin : Bool} {at_ top : Option Nat} {res pd : Int} {w1 : World} {e : Ending} (hbs : ∀ x ∈ bs, x ∈ o :: g :: m.cells) (hp : PoS w o g bs b K at_ fin res top pd e w1)
    (hK : fnS s'.pc = K) (hat : s'.at_ = at_) (hfin : s'.fin = b) (hres : s'.res = res) (htop : m'.top = top) (hpd : m'.pd = pd) (hcells : m'.cells = m.cells) (hitem : m'.item = m.item)
    (hcl : ∀ c ∈ m.cells, ClS w1 c (evS (m.item c)) (m'.below c)) (hm : OkM m') (ho : OkO m' s') : RelS (w1.setCell ⟨o, 3, none⟩ (.bool b)) g m' (ops.set i (o, s')) ∧ Ch w (w1.setCell ⟨o, 3, none⟩ (.bool b)) (o :: g :: m.cells) := by
  have hmem : (o, s) ∈ ops := List.mem_of_getElem? hi
  have hch : Ch w (w1.setCell ⟨o, 3, none⟩ (.bool b)) (o :: g :: m.cells) := (hp.ch.mono hbs).set (by simp) _
  refine ⟨h.after hi hch ?_ ?_ hcells hitem (fun c hc => Bk.other (hcl c hc) (h.co hc hmem) _) hm ho, hch⟩
  · rw [htop, hpd]
    exact Bk.other hp.fr (fun e => h.og hmem e.symm) _
  · rw [hK, hat, hfin, hres]
    exact Bk.put hp.op 3 _
end

theorem egS (pc : Nat) (hpc : 1 ≤ pc ∧ pc ≤ 6) (args : Array Value) (W : World) : (callFunc (fnS pc) args).run Try.prog W = .ok (.enter (fnS pc) args) W := by
  match pc with
  | 0 => omega
  | 1 => exact enters_of Try.func43 (by kernel_rfl) rfl args W
  | 2 => exact enters_of Try.func53 (by kernel_rfl) rfl args W
  | 3 => exact enters_of Try.func59 (by kernel_rfl) rfl args W
  | 4 => exact enters_of Try.func46 (by kernel_rfl) rfl args W
  | 5 => exact enters_of Try.func54 (by kernel_rfl) rfl args W
  | 6 => exact enters_of Try.func55 (by kernel_rfl) rfl args W
  | n + 7 => omega

/-- One step of an operation. -/
theorem moveS (w : World) (g : Nat) (m : Mem Bs) (ops : List (Nat × OpS)) (h : RelS w g m ops) (i o : Nat) (s : OpS) (hi : ops[i]? = some (o, s)) (h1 : -900000 ≤ m.pd) (h2 : m.pd ≤ 900000) (hpc : 1 ≤ s.pc ∧ s.pc ≤ 6) :
    Calls Try.prog 30 #[.pointer (some ⟨o, 0, none⟩)] w fun e w' => e = .returned (.bool (stp m s).2.2) ∧ RelS w' g (stp m s).1 (ops.set i (o, (stp m s).2.1)) ∧ Ch w w' (o :: g :: m.cells) := by
  have hmem : (o, s) ∈ ops := List.mem_of_getElem? hi
  have hob := h.op _ hmem
  have hoM := stp_okM h.okM (h.okO _ hmem)
  have hoO := stp_okO h.okM (h.okO _ hmem)
  have hok := h.okO _ hmem
  have hfr := h.fr
  have ht := h.pt h.okM.top
  obtain ⟨pc, at_, fin, res⟩ := s
  dsimp only at hob hok hoM hoO hpc
  cases fin with
  | true =>
    refine (stepfinS o g _ at_ res w hob).mono ?_
    rintro e w' ⟨rfl, rfl⟩
    refine ⟨rfl, ?_, Ch.refl _ _⟩
    have e : ops.set i (o, ⟨pc, at_, true, res⟩) = ops := by
      obtain ⟨hl, e⟩ := List.getElem?_eq_some_iff.1 hi
      conv => rhs; rw [← List.set_getElem_self hl]
      rw [e]
    simpa [stp, e] using h
  | false =>
    have other : ∀ {w1 : World} {bs : List Nat}, Ch w w1 [o, g] → ∀ c ∈ m.cells, ClS w1 c (evS (m.item c)) (m.below c) := fun hch c hc => hch.keep (h.cell c hc) (by simp [h.co hc hmem, h.cg hc])
    match pc with
    | 1 =>
      refine (stepS o g _ at_ res w hob _ (egS 1 (by decide)) (beginS o g _ at_ m.top res m.pd w hob hfr (by omega) (by omega)) (fun e w' hp => ⟨_, _, _, _, hp.ret, hp.op⟩)).mono ?_
      rintro e w' ⟨b, w1, hp, rfl, rfl⟩
      have hb := hp.ret
      simp only [Ending.returned.injEq, Value.bool.injEq] at hb
      subst hb
      exact ⟨rfl, h.stepped hi (by simp) hp rfl rfl rfl rfl rfl rfl rfl rfl (other (bs := []) hp.ch) hoM hoO⟩
    | 2 =>
      obtain ⟨c, rfl⟩ := hok.has (by simp)
      have hcm : c ∈ m.cells := hok.at_ c rfl
      refine (stepS o g _ _ res w hob _ (egS 2 (by decide)) (readS o g _ c m.top (m.below c) _ res m.pd w hob hfr (h.cell c hcm) ht) (fun e w' hp => ⟨_, _, _, _, hp.1.ret, hp.1.op⟩)).mono ?_
      rintro e w' ⟨b, w1, ⟨hp, hcl⟩, rfl, rfl⟩
      have hb := hp.ret
      simp only [Ending.returned.injEq, Value.bool.injEq] at hb
      subst hb
      have e : stp m ⟨2, some c, false, res⟩ = ({ m with below := upd m.below c m.top }, ⟨3, some c, false, res⟩, false) := rfl
      rw [e] at hoM hoO ⊢
      refine ⟨rfl, h.stepped hi (by simp [hcm]) hp rfl rfl rfl rfl rfl rfl rfl rfl (fun d hd => ?_) hoM hoO⟩
      dsimp only
      by_cases hdc : d = c
      · subst hdc
        rw [upd_same]
        exact hcl
      · rw [upd_other _ _ hdc]
        exact hp.ch.keep (h.cell d hd) (by simp [h.co hd hmem, hdc])
    | 3 =>
      obtain ⟨c, rfl⟩ := hok.has (by simp)
      have hcm : c ∈ m.cells := hok.at_ c rfl
      refine (stepS o g _ _ res w hob _ (egS 3 (by decide)) (putS o g _ c m.top (m.below c) _ res m.pd w hob hfr (h.cell c hcm) ht (h.pt (h.okM.below c hcm))) (fun e w' hp => ⟨_, _, _, _, hp.ret, hp.op⟩)).mono ?_
      rintro e w' ⟨b, w1, hp, rfl, rfl⟩
      have hb := hp.ret
      simp only [Ending.returned.injEq, Value.bool.injEq] at hb
      subst hb
      by_cases ht : m.top = m.below c
      · simp only [ht, if_true, decide_true] at hp ⊢
        have e : stp m ⟨3, some c, false, res⟩ = ({ m with top := some c }, ⟨2, some c, true, res⟩, true) := by simp [stp, ht]
        rw [e] at hoM hoO ⊢
        exact ⟨rfl, h.stepped hi (by simp) hp rfl rfl rfl rfl rfl rfl rfl rfl (other (bs := []) hp.ch) hoM hoO⟩
      · simp only [ht, if_false, decide_false] at hp ⊢
        have e : stp m ⟨3, some c, false, res⟩ = (m, ⟨2, some c, false, res⟩, false) := by simp [stp, ht]
        rw [e] at hoM hoO ⊢
        exact ⟨rfl, h.stepped hi (by simp) hp rfl rfl rfl rfl rfl rfl rfl rfl (other (bs := []) hp.ch) hoM hoO⟩
    | 4 =>
      refine (stepS o g _ at_ res w hob _ (egS 4 (by decide)) (lookS o g _ at_ m.top res m.pd w hob hfr ht) (fun e w' hp => ⟨_, _, _, _, hp.ret, hp.op⟩)).mono ?_
      rintro e w' ⟨b, w1, hp, rfl, rfl⟩
      have hb := hp.ret
      simp only [Ending.returned.injEq, Value.bool.injEq] at hb
      subst hb
      refine ⟨rfl, h.stepped hi (by simp) hp ?_ rfl rfl rfl rfl rfl rfl rfl (other (bs := []) hp.ch) hoM hoO⟩
      by_cases ht : m.top = none <;> simp [stp, ht, fnS]
    | 5 =>
      obtain ⟨c, rfl⟩ := hok.has (by simp)
      have hcm : c ∈ m.cells := hok.at_ c rfl
      refine (stepS o g _ _ res w hob _ (egS 5 (by decide)) (cutS o g _ c m.top (m.below c) _ res m.pd w hob hfr (h.cell c hcm) ht (h.pt (h.okM.below c hcm))) (fun e w' hp => ⟨_, _, _, _, hp.ret, hp.op⟩)).mono ?_
      rintro e w' ⟨b, w1, hp, rfl, rfl⟩
      have hb := hp.ret
      simp only [Ending.returned.injEq, Value.bool.injEq] at hb
      subst hb
      by_cases ht : m.top = some c
      · simp only [ht, if_true, decide_true] at hp ⊢
        have e : stp m ⟨5, some c, false, res⟩ = ({ m with top := m.below c }, ⟨4, some c, true, 1⟩, true) := by simp [stp, ht]
        rw [e] at hoM hoO ⊢
        exact ⟨rfl, h.stepped hi (by simp) hp rfl rfl rfl rfl rfl rfl rfl rfl (other (bs := []) hp.ch) hoM hoO⟩
      · simp only [ht, if_false, decide_false] at hp ⊢
        have e : stp m ⟨5, some c, false, res⟩ = (m, ⟨4, some c, false, res⟩, false) := by simp [stp, ht]
        rw [e] at hoM hoO ⊢
        exact ⟨rfl, h.stepped hi (by simp) hp rfl rfl rfl rfl rfl rfl rfl rfl (other (bs := []) hp.ch) hoM hoO⟩
    | 6 =>
      refine (stepS o g _ at_ res w hob _ (egS 6 (by decide)) (countS o g _ at_ m.top res m.pd w hob hfr) (fun e w' hp => ⟨_, _, _, _, hp.ret, hp.op⟩)).mono ?_
      rintro e w' ⟨b, w1, hp, rfl, rfl⟩
      have hb := hp.ret
      simp only [Ending.returned.injEq, Value.bool.injEq] at hb
      subst hb
      exact ⟨rfl, h.stepped hi (by simp) hp rfl rfl rfl rfl rfl rfl rfl rfl (other (bs := []) hp.ch) hoM hoO⟩
    | 0 =>
      omega
    | n + 7 =>
      omega

end Go.Proofs.Ytokdalilnckkoaa
