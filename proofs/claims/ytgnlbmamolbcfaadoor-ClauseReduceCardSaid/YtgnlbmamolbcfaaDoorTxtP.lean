/- The text of a clause, in plain Lean: different clauses have different texts. -/
import Derived.Test.YtgnlbmamolbcfaaDoorCl
import Derived.Lib.ItoaNum
import Derived.Lib.Join
set_option linter.unusedVariables false
namespace Go.Proofs.YtgnlbmamolbcfaaDoor

def wrd (b : Bool) : List UInt8 := if b then [32, 111, 110] else [32, 111, 102, 102]
/-- The text of a literal. -/
def litB (x : Lit) : List UInt8 := 117 :: (Lib.decDigits x.1.toNat ++ wrd x.2)
def sepB : List UInt8 := [32, 124, 32]
def txtB (l : List Lit) : List UInt8 := Lib.join (l.map litB) sepB
/-- The text of a clause. -/
def txt (l : List Lit) : List UInt8 := if l = [] then [101, 109, 112, 116, 121] else txtB l

theorem dig_range : ∀ (u : Nat), ∀ b ∈ Lib.decDigits u, 48 ≤ b.toNat ∧ b.toNat ≤ 57 := fun u => by
  induction u using Nat.strongRecOn with
  | ind u ih =>
    intro b hb
    rw [Lib.decDigits] at hb
    by_cases h : u < 10
    · rw [dif_pos h] at hb
      obtain rfl : b = UInt8.ofNat (48 + u) := by simpa using hb
      rw [UInt8.toNat_ofNat']
      omega
    · rw [dif_neg h, List.mem_append] at hb
      rcases hb with hb | hb
      · exact ih (u / 10) (by omega) b hb
      · obtain rfl : b = UInt8.ofNat (48 + u % 10) := by simpa using hb
        rw [UInt8.toNat_ofNat']
        omega
/-- The number that digits spell. -/
def val : List UInt8 → Nat → Nat
  | [], a => a
  | b :: r, a => val r (a * 10 + (b.toNat - 48))
theorem val_append (r : List UInt8) (b : UInt8) : ∀ a, val (r ++ [b]) a = val r a * 10 + (b.toNat - 48) := by
  induction r with
  | nil => intro a; rfl
  | cons c r ih => intro a; exact ih _
theorem val_dig (u : Nat) : val (Lib.decDigits u) 0 = u := by
  induction u using Nat.strongRecOn with
  | ind u ih =>
    rw [Lib.decDigits]
    by_cases h : u < 10
    · rw [dif_pos h]
      show 0 * 10 + ((UInt8.ofNat (48 + u)).toNat - 48) = u
      rw [UInt8.toNat_ofNat']
      omega
    · rw [dif_neg h, val_append, ih (u / 10) (by omega), UInt8.toNat_ofNat']
      omega
theorem dig_inj {u v : Nat} (h : Lib.decDigits u = Lib.decDigits v) : u = v := by rw [← val_dig u, h, val_dig]

/-- Two lists without the byte s that go on with s: they are equal, and so is what goes on. -/
theorem cut_at {s : UInt8} : ∀ {a b r t : List UInt8}, s ∉ a → s ∉ b → a ++ s :: r = b ++ s :: t → a = b ∧ r = t
  | [], [], r, t, _, _, h => by
    injection h with _ h
    exact ⟨rfl, h⟩
  | [], y :: b, r, t, _, hb, h => by
    injection h with h _
    exact absurd (by simp [h]) hb
  | x :: a, [], r, t, ha, _, h => by
    injection h with h _
    exact absurd (by simp [h]) ha
  | x :: a, y :: b, r, t, ha, hb, h => by
    injection h with h1 h2
    obtain ⟨h3, h4⟩ := cut_at (by simp at ha; exact ha.2) (by simp at hb; exact hb.2) h2
    exact ⟨by rw [h1, h3], h4⟩
theorem dig_no {s : UInt8} (hs : s.toNat < 48 ∨ 57 < s.toNat) (u : Nat) : s ∉ Lib.decDigits u := fun h => by
  have := dig_range u s h
  omega
theorem wrd_form (b : Bool) : ∃ r, wrd b = 32 :: r := by cases b <;> exact ⟨_, rfl⟩
theorem wrd_inj {a b : Bool} (h : wrd a = wrd b) : a = b := by cases a <;> cases b <;> first | rfl | cases h
theorem litB_inj {x y : Lit} (hx : 0 ≤ x.1) (hy : 0 ≤ y.1) (h : litB x = litB y) : x = y := by
  unfold litB at h
  injection h with _ h
  obtain ⟨r, hr⟩ := wrd_form x.2
  obtain ⟨t, ht⟩ := wrd_form y.2
  rw [hr, ht] at h
  obtain ⟨h1, h2⟩ := cut_at (dig_no (by decide) _) (dig_no (by decide) _) h
  have h3 := dig_inj h1
  refine Prod.ext (by omega) (wrd_inj ?_)
  rw [hr, ht, h2]
theorem litB_no (x : Lit) : (124 : UInt8) ∉ litB x := by
  unfold litB
  intro h
  rcases List.mem_cons.1 h with h | h
  · exact absurd h (by decide)
  · rcases List.mem_append.1 h with h | h
    · exact dig_no (by decide) _ h
    · revert h
      cases x.2 <;> decide
theorem tail_form (x : Lit) (l : List Lit) : Lib.joinTail sepB ((x :: l).map litB) = 32 :: 124 :: 32 :: (litB x ++ Lib.joinTail sepB (l.map litB)) := by
  simp [Lib.joinTail, sepB]
theorem txt_cons (x : Lit) (l : List Lit) : txtB (x :: l) = litB x ++ Lib.joinTail sepB (l.map litB) := by
  rw [txtB, List.map_cons, Lib.join_cons]
theorem cons_inj : ∀ {a b : List Lit} {x y : Lit}, (∀ z ∈ x :: a, 0 ≤ z.1) → (∀ z ∈ y :: b, 0 ≤ z.1) → litB x ++ Lib.joinTail sepB (a.map litB) = litB y ++ Lib.joinTail sepB (b.map litB) → x :: a = y :: b
  | [], [], x, y, ha, hb, h => by
    have h' : litB x = litB y := by simpa [Lib.joinTail] using h
    rw [litB_inj (ha x (by simp)) (hb y (by simp)) h']
  | [], z :: b, x, y, ha, hb, h => by
    rw [tail_form, show Lib.joinTail sepB (([] : List Lit).map litB) = [] from rfl, List.append_nil] at h
    exact absurd (h ▸ (by simp : (124 : UInt8) ∈ litB y ++ 32 :: 124 :: 32 :: (litB z ++ Lib.joinTail sepB (b.map litB)))) (litB_no x)
  | z :: a, [], x, y, ha, hb, h => by
    rw [tail_form, show Lib.joinTail sepB (([] : List Lit).map litB) = [] from rfl, List.append_nil] at h
    exact absurd (h ▸ (by simp : (124 : UInt8) ∈ litB x ++ 32 :: 124 :: 32 :: (litB z ++ Lib.joinTail sepB (a.map litB)))) (litB_no y)
  | z :: a, v :: b, x, y, ha, hb, h => by
    rw [tail_form, tail_form, show ∀ (p q : List UInt8), p ++ 32 :: 124 :: q = (p ++ [32]) ++ 124 :: q from fun p q => by simp, show ∀ (p q : List UInt8), p ++ 32 :: 124 :: q = (p ++ [32]) ++ 124 :: q from fun p q => by simp] at h
    obtain ⟨h1, h2⟩ := cut_at (by simp [litB_no]) (by simp [litB_no]) h
    have h3 : litB x = litB y := List.append_cancel_right h1
    injection h2 with _ h2
    rw [litB_inj (ha x (by simp)) (hb y (by simp)) h3, cons_inj (fun w hw => ha w (by simp at hw ⊢; exact .inr hw)) (fun w hw => hb w (by simp at hw ⊢; exact .inr hw)) h2]
theorem txt_inj {a b : List Lit} (ha : Vld a) (hb : Vld b) : txt a = txt b ↔ a = b := by
  refine ⟨fun h => ?_, fun h => by rw [h]⟩
  have na : ∀ z ∈ a, 0 ≤ z.1 := fun z hz => by
    obtain ⟨i, hi⟩ := List.mem_iff_getElem?.1 hz
    exact (ha.range hi).1
  have nb : ∀ z ∈ b, 0 ≤ z.1 := fun z hz => by
    obtain ⟨i, hi⟩ := List.mem_iff_getElem?.1 hz
    exact (hb.range hi).1
  cases a with
  | nil =>
    cases b with
    | nil => rfl
    | cons y b =>
      rw [txt, if_pos rfl, txt, if_neg (by simp), txt_cons, litB, List.cons_append] at h
      injection h with h _
      exact absurd h (by decide)
  | cons x a =>
    cases b with
    | nil =>
      rw [txt, if_neg (by simp), txt, if_pos rfl, txt_cons, litB, List.cons_append] at h
      injection h with h _
      exact absurd h (by decide)
    | cons y b =>
      rw [txt, if_neg (by simp), txt, if_neg (by simp), txt_cons, txt_cons] at h
      exact cons_inj na nb h
/-- One literal more behind others. -/
theorem txt_snoc (l : List Lit) (x : Lit) : txtB (l ++ [x]) = (if l = [] then [] else txtB l ++ sepB) ++ litB x := by
  cases l with
  | nil => simp [txtB, Lib.join_one]
  | cons y l =>
    rw [List.cons_append, txt_cons, if_neg (by simp), txt_cons]
    simp [Lib.joinTail]
theorem litB_len {x : Lit} (h : x.1 < 1024) : (litB x).length ≤ 9 := by
  have h1 : (Lib.decDigits x.1.toNat).length ≤ 4 := by
    rw [Lib.decDigits_length]
    have : x.1.toNat < 1024 := by omega
    generalize x.1.toNat = u at this
    rw [Lib.nDigits]
    split
    · omega
    · rw [Lib.nDigits]
      split
      · omega
      · rw [Lib.nDigits]
        split
        · omega
        · rw [Lib.nDigits]
          split
          · omega
          · omega
  have h2 : (wrd x.2).length ≤ 4 := by cases x.2 <;> decide
  unfold litB
  rw [List.length_cons, List.length_append]
  omega
theorem txtB_len : ∀ {l : List Lit}, (∀ x ∈ l, x.1 < 1024) → (txtB l).length ≤ 12 * l.length
  | [], _ => Nat.zero_le _
  | x :: l, h => by
    rw [txt_cons, List.length_append]
    have h1 := litB_len (h x (by simp))
    have h2 : ∀ l : List Lit, (∀ x ∈ l, x.1 < 1024) → (Lib.joinTail sepB (l.map litB)).length ≤ 12 * l.length := fun l => by
      induction l with
      | nil => intro _; exact Nat.zero_le _
      | cons y l ih =>
        intro h
        have h3 := litB_len (h y (by simp))
        have h4 := ih fun z hz => h z (by simp [hz])
        rw [tail_form]
        simp only [List.length_cons, List.length_append]
        omega
    have h3 := h2 l fun z hz => h z (by simp [hz])
    rw [List.length_cons]
    omega
end Go.Proofs.YtgnlbmamolbcfaaDoor
