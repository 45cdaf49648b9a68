/- before. -/
import Derived.Test.YtnepkpcoglfejaaChecked
import Derived.Test.YtnepkpcoglfejaaLc
import Derived.WalkKit
import Derived.WalkSpells
import Derived.WalkLawsBesides
import Derived.Outline
import Derived.Lib.Hide
import Derived.Deep.QuietTactic
import Derived.BigQuiet
import Derived.StillTailTactics
import Derived.LaidEql
import Derived.Laws.EntriesVeiled
namespace Go.Proofs.Ytnepkpcoglfejaa
open Go.RowKit

def encXA (x : (Int × Int)) : Value := .agg #[.int .i64 x.1, .int .i64 x.2]
def encEA (e : (Int × Int) × Int) : List Value := [.int .i64 e.1.1, .int .i64 e.1.2, .int .i64 e.2]

section
variable {ok : (Int × Int) → Prop} {lt : (Int × Int) → (Int × Int) → Bool} {fv : Value} {c : Nat → Prop} {J : Nat → World → Prop} {R : World → World → Prop}
set_option maxRecDepth 100000 in
set_option maxHeartbeats 800000 in
theorem beforeA (L : Lc Try.prog encXA ok lt fv c J R) (p : Nat) (hv nv : Value) (a b : (Int × Int) × Int) (k : Nat) (w : World) (hl : Bk w p 71 #[fv, hv, nv]) (hp : ¬ c p) (oa : ok a.1) (ob : ok b.1) (hJ : J k w) :
    Calls Try.prog 56 #[.pointer (some ⟨p, 0, none⟩), .agg (encEA a).toArray, .agg (encEA b).toArray] w fun e w' => e = .returned (.bool (bfr lt a b)) ∧ J (k + 2) w' ∧ R w w' := by
  obtain ⟨F, cb, rfl, eg, hcall⟩ := L.call
  obtain ⟨⟨a1, a2⟩, an⟩ := a
  obtain ⟨⟨b1, b2⟩, bn⟩ := b
  have h1 : Hid (∀ k W, J k W → Calls Try.prog F (#[.agg #[.int .i64 a1, .int .i64 a2], .agg #[.int .i64 b1, .int .i64 b2]] ++ cb) W fun e w' => e = .returned (.bool (lt (a1, a2) (b1, b2))) ∧ J (k + 1) w' ∧ R W w') := fun k W h => hcall (a1, a2) (b1, b2) k W oa ob h
  have h2 : Hid (∀ k W, J k W → Calls Try.prog F (#[.agg #[.int .i64 b1, .int .i64 b2], .agg #[.int .i64 a1, .int .i64 a2]] ++ cb) W fun e w' => e = .returned (.bool (lt (b1, b2) (a1, a2))) ∧ J (k + 1) w' ∧ R W w') := fun k W h => hcall (b1, b2) (a1, a2) k W ob oa h
  have HL := Lib.hid L
  clear hcall L oa ob
  generalize hw1 : w.alloc (.cells #[.int .i64 a1, .int .i64 a2, .int .i64 an] 73) = w1
  generalize hw2 : w1.alloc (.cells #[.int .i64 b1, .int .i64 b2, .int .i64 bn] 73) = w2
  have s1 : w1.heap.size = w.heap.size + 1 := by rw [← hw1]; simp
  have k1 : Bk w2 p 71 #[.func (.func F) #[] cb, hv, nv] := by rw [← hw2, ← hw1]; exact (hl.alloc _).alloc _
  have ka : Bk w2 w.heap.size 73 #[.int .i64 a1, .int .i64 a2, .int .i64 an] := by rw [← hw2, ← hw1]; exact (Bk.made _ _ _).alloc _
  have kb : Bk w2 (w.heap.size + 1) 73 #[.int .i64 b1, .int .i64 b2, .int .i64 bn] := by rw [← hw2, ← s1]; exact Bk.made _ _ _
  have j2 : J k w2 := by rw [← hw2, ← hw1]; exact HL.out.jalloc (HL.out.jalloc hJ _) _
  have r2 : R w w2 := by rw [← hw2, ← hw1]; exact HL.out.trans (HL.out.alloc _ _) (HL.out.alloc _ _)
  have nca : ¬ c w.heap.size := fun h => Nat.lt_irrefl _ (HL.out.bnd hJ h)
  have ncb : ¬ c (w.heap.size + 1) := fun h => by have := HL.out.bnd hJ h; omega
  change Calls Try.prog 56 #[.pointer (some ⟨p, 0, none⟩), .agg #[.int .i64 a1, .int .i64 a2, .int .i64 an], .agg #[.int .i64 b1, .int .i64 b2, .int .i64 bn]] w _
  have HR : Hid (∀ w', R w2.drew w' → R w w') := fun w' h => HL.out.trans (HL.out.trans r2 (HL.out.drew _)) h
  have HB : bfr lt ((a1, a2), an) ((b1, b2), bn) = (lt (a1, a2) (b1, b2) || (!lt (b1, b2) (a1, a2) && decide (an < bn))) := rfl
  rw [HB]
  clear HB
  have HJ2 := Lib.hid (HL.out.jdrew j2)
  generalize hx1 : lt (a1, a2) (b1, b2) = x1 at *
  generalize hx2 : lt (b1, b2) (a1, a2) = x2 at *
  have HK1 := Lib.hid k1
  have HKA := Lib.hid ka
  have HKB := Lib.hid kb
  have c1 : w2.cell? ⟨p, 0, none⟩ = some (.func (.func F) #[] cb) := (k1.cell 0).trans rfl
  have ca1 : w2.cell? ⟨w.heap.size, 0, none⟩ = some (.int .i64 a1) := (ka.cell 0).trans rfl
  have ca2 : w2.cell? ⟨w.heap.size, 1, none⟩ = some (.int .i64 a2) := (ka.cell 1).trans rfl
  have cb1 : w2.cell? ⟨w.heap.size + 1, 0, none⟩ = some (.int .i64 b1) := (kb.cell 0).trans rfl
  have cb2 : w2.cell? ⟨w.heap.size + 1, 1, none⟩ = some (.int .i64 b2) := (kb.cell 1).trans rfl
  clear k1 ka kb j2 r2 hl hx1 hx2 hJ
  have HS := Lib.hid s1
  clear s1
  go_enter Try.func56, Try.ntmps56
  go_wp2_with fail
  rw [HS.out]
  clear hw1 hw2
  generalize w.heap.size = n at *
  go_still_tail 8, (by kernel_rfl)
  change wpList _ _ _ _ _ w2.drew
  go_wp2_with fail
  refine (h1.out _ _ HJ2.out).mono ?_
  rintro e w3 ⟨rfl, j3, r3⟩
  cases x1
  case true =>
    go_wp2
    go_ret
    exact ⟨rfl, HL.out.mono j3 (by omega), HR.out _ r3⟩
  have F3 : Fr c w2 w3 := (Fr.drew c w2).trans (HL.out.fr r3)
  have k1 : Bk w3 p 71 #[.func (.func F) #[] cb, hv, nv] := F3.bk HK1.out hp
  have ka : Bk w3 n 73 #[.int .i64 a1, .int .i64 a2, .int .i64 an] := F3.bk HKA.out nca
  have kb : Bk w3 (n + 1) 73 #[.int .i64 b1, .int .i64 b2, .int .i64 bn] := F3.bk HKB.out ncb
  clear c1 ca1 ca2 cb1 cb2 F3
  have c1 : w3.cell? ⟨p, 0, none⟩ = some (.func (.func F) #[] cb) := (k1.cell 0).trans rfl
  have ca1 : w3.cell? ⟨n, 0, none⟩ = some (.int .i64 a1) := (ka.cell 0).trans rfl
  have ca2 : w3.cell? ⟨n, 1, none⟩ = some (.int .i64 a2) := (ka.cell 1).trans rfl
  have cb1 : w3.cell? ⟨n + 1, 0, none⟩ = some (.int .i64 b1) := (kb.cell 0).trans rfl
  have cb2 : w3.cell? ⟨n + 1, 1, none⟩ = some (.int .i64 b2) := (kb.cell 1).trans rfl
  have HKA := Lib.hid ka
  have HKB := Lib.hid kb
  have HJ3 := Lib.hid (HL.out.jdrew j3)
  have HR3 : Hid (∀ w', R w3.drew w' → R w w') := fun w' h => HR.out _ (HL.out.trans (HL.out.trans r3 (HL.out.drew _)) h)
  clear k1 ka kb j3 r3 HR HJ2 HK1 h1
  go_wp2_with fail
  go_still_tail 8, (by kernel_rfl)
  change wpList _ _ _ _ _ w3.drew
  go_wp2_with fail
  refine (h2.out _ _ HJ3.out).mono ?_
  rintro e w4 ⟨rfl, j4, r4⟩
  have F4 : Fr c w3 w4 := (Fr.drew c w3).trans (HL.out.fr r4)
  have ka : Bk w4 n 73 #[.int .i64 a1, .int .i64 a2, .int .i64 an] := F4.bk HKA.out nca
  have kb : Bk w4 (n + 1) 73 #[.int .i64 b1, .int .i64 b2, .int .i64 bn] := F4.bk HKB.out ncb
  clear c1 ca1 ca2 cb1 cb2 F4 HJ3 h2 HKA HKB
  have ca3 : w4.cell? ⟨n, 2, none⟩ = some (.int .i64 an) := (ka.cell 2).trans rfl
  have cb3 : w4.cell? ⟨n + 1, 2, none⟩ = some (.int .i64 bn) := (kb.cell 2).trans rfl
  clear ka kb
  cases x2
  case true =>
    go_wp2
    go_ret
    exact ⟨rfl, j4, HR3.out _ r4⟩
  go_wp2
  go_ret
  exact ⟨ret_bool (by simp), j4, HR3.out _ r4⟩
end
def encXI (x : Int) : Value := .int .i64 x
def encEI (e : Int × Int) : List Value := [.int .i64 e.1, .int .i64 e.2]

section
variable {ok : Int → Prop} {lt : Int → Int → Bool} {fv : Value} {c : Nat → Prop} {J : Nat → World → Prop} {R : World → World → Prop}
set_option maxRecDepth 100000 in
set_option maxHeartbeats 800000 in
theorem beforeI (L : Lc Try.prog encXI ok lt fv c J R) (p : Nat) (hv nv : Value) (a b : Int × Int) (k : Nat) (w : World) (hl : Bk w p 77 #[fv, hv, nv]) (hp : ¬ c p) (oa : ok a.1) (ob : ok b.1) (hJ : J k w) :
    Calls Try.prog 57 #[.pointer (some ⟨p, 0, none⟩), .agg (encEI a).toArray, .agg (encEI b).toArray] w fun e w' => e = .returned (.bool (bfr lt a b)) ∧ J (k + 2) w' ∧ R w w' := by
  obtain ⟨F, cb, rfl, eg, hcall⟩ := L.call
  obtain ⟨a1, an⟩ := a
  obtain ⟨b1, bn⟩ := b
  have h1 : Hid (∀ k W, J k W → Calls Try.prog F (#[.int .i64 a1, .int .i64 b1] ++ cb) W fun e w' => e = .returned (.bool (lt a1 b1)) ∧ J (k + 1) w' ∧ R W w') := fun k W h => hcall a1 b1 k W oa ob h
  have h2 : Hid (∀ k W, J k W → Calls Try.prog F (#[.int .i64 b1, .int .i64 a1] ++ cb) W fun e w' => e = .returned (.bool (lt b1 a1)) ∧ J (k + 1) w' ∧ R W w') := fun k W h => hcall b1 a1 k W ob oa h
  have HL := Lib.hid L
  clear hcall L oa ob
  generalize hw1 : w.alloc (.cells #[.int .i64 a1, .int .i64 an] 79) = w1
  generalize hw2 : w1.alloc (.cells #[.int .i64 b1, .int .i64 bn] 79) = w2
  have s1 : w1.heap.size = w.heap.size + 1 := by rw [← hw1]; simp
  have k1 : Bk w2 p 77 #[.func (.func F) #[] cb, hv, nv] := by rw [← hw2, ← hw1]; exact (hl.alloc _).alloc _
  have ka : Bk w2 w.heap.size 79 #[.int .i64 a1, .int .i64 an] := by rw [← hw2, ← hw1]; exact (Bk.made _ _ _).alloc _
  have kb : Bk w2 (w.heap.size + 1) 79 #[.int .i64 b1, .int .i64 bn] := by rw [← hw2, ← s1]; exact Bk.made _ _ _
  have j2 : J k w2 := by rw [← hw2, ← hw1]; exact HL.out.jalloc (HL.out.jalloc hJ _) _
  have r2 : R w w2 := by rw [← hw2, ← hw1]; exact HL.out.trans (HL.out.alloc _ _) (HL.out.alloc _ _)
  have nca : ¬ c w.heap.size := fun h => Nat.lt_irrefl _ (HL.out.bnd hJ h)
  have ncb : ¬ c (w.heap.size + 1) := fun h => by have := HL.out.bnd hJ h; omega
  change Calls Try.prog 57 #[.pointer (some ⟨p, 0, none⟩), .agg #[.int .i64 a1, .int .i64 an], .agg #[.int .i64 b1, .int .i64 bn]] w _
  have HR : Hid (∀ w', R w2.drew w' → R w w') := fun w' h => HL.out.trans (HL.out.trans r2 (HL.out.drew _)) h
  have HB : bfr lt (a1, an) (b1, bn) = (lt a1 b1 || (!lt b1 a1 && decide (an < bn))) := rfl
  rw [HB]
  clear HB
  have HJ2 := Lib.hid (HL.out.jdrew j2)
  generalize hx1 : lt a1 b1 = x1 at *
  generalize hx2 : lt b1 a1 = x2 at *
  have HK1 := Lib.hid k1
  have HKA := Lib.hid ka
  have HKB := Lib.hid kb
  have c1 : w2.cell? ⟨p, 0, none⟩ = some (.func (.func F) #[] cb) := (k1.cell 0).trans rfl
  have ca1 : w2.cell? ⟨w.heap.size, 0, none⟩ = some (.int .i64 a1) := (ka.cell 0).trans rfl
  have cb1 : w2.cell? ⟨w.heap.size + 1, 0, none⟩ = some (.int .i64 b1) := (kb.cell 0).trans rfl
  clear k1 ka kb j2 r2 hl hx1 hx2 hJ
  have HS := Lib.hid s1
  clear s1
  go_enter Try.func57, Try.ntmps57
  go_wp2_with fail
  rw [HS.out]
  clear hw1 hw2
  generalize w.heap.size = n at *
  go_still_tail 8, (by kernel_rfl)
  change wpList _ _ _ _ _ w2.drew
  go_wp2_with fail
  refine (h1.out _ _ HJ2.out).mono ?_
  rintro e w3 ⟨rfl, j3, r3⟩
  cases x1
  case true =>
    go_wp2
    go_ret
    exact ⟨rfl, HL.out.mono j3 (by omega), HR.out _ r3⟩
  have F3 : Fr c w2 w3 := (Fr.drew c w2).trans (HL.out.fr r3)
  have k1 : Bk w3 p 77 #[.func (.func F) #[] cb, hv, nv] := F3.bk HK1.out hp
  have ka : Bk w3 n 79 #[.int .i64 a1, .int .i64 an] := F3.bk HKA.out nca
  have kb : Bk w3 (n + 1) 79 #[.int .i64 b1, .int .i64 bn] := F3.bk HKB.out ncb
  clear c1 ca1 cb1 F3
  have c1 : w3.cell? ⟨p, 0, none⟩ = some (.func (.func F) #[] cb) := (k1.cell 0).trans rfl
  have ca1 : w3.cell? ⟨n, 0, none⟩ = some (.int .i64 a1) := (ka.cell 0).trans rfl
  have cb1 : w3.cell? ⟨n + 1, 0, none⟩ = some (.int .i64 b1) := (kb.cell 0).trans rfl
  have HKA := Lib.hid ka
  have HKB := Lib.hid kb
  have HJ3 := Lib.hid (HL.out.jdrew j3)
  have HR3 : Hid (∀ w', R w3.drew w' → R w w') := fun w' h => HR.out _ (HL.out.trans (HL.out.trans r3 (HL.out.drew _)) h)
  clear k1 ka kb j3 r3 HR HJ2 HK1 h1
  go_wp2_with fail
  go_still_tail 8, (by kernel_rfl)
  change wpList _ _ _ _ _ w3.drew
  go_wp2_with fail
  refine (h2.out _ _ HJ3.out).mono ?_
  rintro e w4 ⟨rfl, j4, r4⟩
  have F4 : Fr c w3 w4 := (Fr.drew c w3).trans (HL.out.fr r4)
  have ka : Bk w4 n 79 #[.int .i64 a1, .int .i64 an] := F4.bk HKA.out nca
  have kb : Bk w4 (n + 1) 79 #[.int .i64 b1, .int .i64 bn] := F4.bk HKB.out ncb
  clear c1 ca1 cb1 F4 HJ3 h2 HKA HKB
  have ca3 : w4.cell? ⟨n, 1, none⟩ = some (.int .i64 an) := (ka.cell 1).trans rfl
  have cb3 : w4.cell? ⟨n + 1, 1, none⟩ = some (.int .i64 bn) := (kb.cell 1).trans rfl
  clear ka kb
  cases x2
  case true =>
    go_wp2
    go_ret
    exact ⟨rfl, j4, HR3.out _ r4⟩
  go_wp2
  go_ret
  exact ⟨ret_bool (by simp), j4, HR3.out _ r4⟩
end
def encXS (x : ByteArray) : Value := .string x
def encES (e : ByteArray × Int) : List Value := [.string e.1, .int .i64 e.2]

section
variable {ok : ByteArray → Prop} {lt : ByteArray → ByteArray → Bool} {fv : Value} {c : Nat → Prop} {J : Nat → World → Prop} {R : World → World → Prop}
set_option maxRecDepth 100000 in
set_option maxHeartbeats 800000 in
theorem beforeS (L : Lc Try.prog encXS ok lt fv c J R) (p : Nat) (hv nv : Value) (a b : ByteArray × Int) (k : Nat) (w : World) (hl : Bk w p 89 #[fv, hv, nv]) (hp : ¬ c p) (oa : ok a.1) (ob : ok b.1) (hJ : J k w) :
    Calls Try.prog 62 #[.pointer (some ⟨p, 0, none⟩), .agg (encES a).toArray, .agg (encES b).toArray] w fun e w' => e = .returned (.bool (bfr lt a b)) ∧ J (k + 2) w' ∧ R w w' := by
  obtain ⟨F, cb, rfl, eg, hcall⟩ := L.call
  obtain ⟨a1, an⟩ := a
  obtain ⟨b1, bn⟩ := b
  have h1 : Hid (∀ k W, J k W → Calls Try.prog F (#[.string a1, .string b1] ++ cb) W fun e w' => e = .returned (.bool (lt a1 b1)) ∧ J (k + 1) w' ∧ R W w') := fun k W h => hcall a1 b1 k W oa ob h
  have h2 : Hid (∀ k W, J k W → Calls Try.prog F (#[.string b1, .string a1] ++ cb) W fun e w' => e = .returned (.bool (lt b1 a1)) ∧ J (k + 1) w' ∧ R W w') := fun k W h => hcall b1 a1 k W ob oa h
  have HL := Lib.hid L
  clear hcall L oa ob
  generalize hw1 : w.alloc (.cells #[.string a1, .int .i64 an] 92) = w1
  generalize hw2 : w1.alloc (.cells #[.string b1, .int .i64 bn] 92) = w2
  have s1 : w1.heap.size = w.heap.size + 1 := by rw [← hw1]; simp
  have k1 : Bk w2 p 89 #[.func (.func F) #[] cb, hv, nv] := by rw [← hw2, ← hw1]; exact (hl.alloc _).alloc _
  have ka : Bk w2 w.heap.size 92 #[.string a1, .int .i64 an] := by rw [← hw2, ← hw1]; exact (Bk.made _ _ _).alloc _
  have kb : Bk w2 (w.heap.size + 1) 92 #[.string b1, .int .i64 bn] := by rw [← hw2, ← s1]; exact Bk.made _ _ _
  have j2 : J k w2 := by rw [← hw2, ← hw1]; exact HL.out.jalloc (HL.out.jalloc hJ _) _
  have r2 : R w w2 := by rw [← hw2, ← hw1]; exact HL.out.trans (HL.out.alloc _ _) (HL.out.alloc _ _)
  have nca : ¬ c w.heap.size := fun h => Nat.lt_irrefl _ (HL.out.bnd hJ h)
  have ncb : ¬ c (w.heap.size + 1) := fun h => by have := HL.out.bnd hJ h; omega
  change Calls Try.prog 62 #[.pointer (some ⟨p, 0, none⟩), .agg #[.string a1, .int .i64 an], .agg #[.string b1, .int .i64 bn]] w _
  have HR : Hid (∀ w', R w2.drew w' → R w w') := fun w' h => HL.out.trans (HL.out.trans r2 (HL.out.drew _)) h
  have HB : bfr lt (a1, an) (b1, bn) = (lt a1 b1 || (!lt b1 a1 && decide (an < bn))) := rfl
  rw [HB]
  clear HB
  have HJ2 := Lib.hid (HL.out.jdrew j2)
  generalize hx1 : lt a1 b1 = x1 at *
  generalize hx2 : lt b1 a1 = x2 at *
  have HK1 := Lib.hid k1
  have HKA := Lib.hid ka
  have HKB := Lib.hid kb
  have c1 : w2.cell? ⟨p, 0, none⟩ = some (.func (.func F) #[] cb) := (k1.cell 0).trans rfl
  have ca1 : w2.cell? ⟨w.heap.size, 0, none⟩ = some (.string a1) := (ka.cell 0).trans rfl
  have cb1 : w2.cell? ⟨w.heap.size + 1, 0, none⟩ = some (.string b1) := (kb.cell 0).trans rfl
  clear k1 ka kb j2 r2 hl hx1 hx2 hJ
  have HS := Lib.hid s1
  clear s1
  go_enter Try.func62, Try.ntmps62
  go_wp2_with fail
  rw [HS.out]
  clear hw1 hw2
  generalize w.heap.size = n at *
  go_still_tail 8, (by kernel_rfl)
  change wpList _ _ _ _ _ w2.drew
  go_wp2_with fail
  refine (h1.out _ _ HJ2.out).mono ?_
  rintro e w3 ⟨rfl, j3, r3⟩
  cases x1
  case true =>
    go_wp2
    go_ret
    exact ⟨rfl, HL.out.mono j3 (by omega), HR.out _ r3⟩
  have F3 : Fr c w2 w3 := (Fr.drew c w2).trans (HL.out.fr r3)
  have k1 : Bk w3 p 89 #[.func (.func F) #[] cb, hv, nv] := F3.bk HK1.out hp
  have ka : Bk w3 n 92 #[.string a1, .int .i64 an] := F3.bk HKA.out nca
  have kb : Bk w3 (n + 1) 92 #[.string b1, .int .i64 bn] := F3.bk HKB.out ncb
  clear c1 ca1 cb1 F3
  have c1 : w3.cell? ⟨p, 0, none⟩ = some (.func (.func F) #[] cb) := (k1.cell 0).trans rfl
  have ca1 : w3.cell? ⟨n, 0, none⟩ = some (.string a1) := (ka.cell 0).trans rfl
  have cb1 : w3.cell? ⟨n + 1, 0, none⟩ = some (.string b1) := (kb.cell 0).trans rfl
  have HKA := Lib.hid ka
  have HKB := Lib.hid kb
  have HJ3 := Lib.hid (HL.out.jdrew j3)
  have HR3 : Hid (∀ w', R w3.drew w' → R w w') := fun w' h => HR.out _ (HL.out.trans (HL.out.trans r3 (HL.out.drew _)) h)
  clear k1 ka kb j3 r3 HR HJ2 HK1 h1
  go_wp2_with fail
  go_still_tail 8, (by kernel_rfl)
  change wpList _ _ _ _ _ w3.drew
  go_wp2_with fail
  refine (h2.out _ _ HJ3.out).mono ?_
  rintro e w4 ⟨rfl, j4, r4⟩
  have F4 : Fr c w3 w4 := (Fr.drew c w3).trans (HL.out.fr r4)
  have ka : Bk w4 n 92 #[.string a1, .int .i64 an] := F4.bk HKA.out nca
  have kb : Bk w4 (n + 1) 92 #[.string b1, .int .i64 bn] := F4.bk HKB.out ncb
  clear c1 ca1 cb1 F4 HJ3 h2 HKA HKB
  have ca3 : w4.cell? ⟨n, 1, none⟩ = some (.int .i64 an) := (ka.cell 1).trans rfl
  have cb3 : w4.cell? ⟨n + 1, 1, none⟩ = some (.int .i64 bn) := (kb.cell 1).trans rfl
  clear ka kb
  cases x2
  case true =>
    go_wp2
    go_ret
    exact ⟨rfl, j4, HR3.out _ r4⟩
  go_wp2
  go_ret
  exact ⟨ret_bool (by simp), j4, HR3.out _ r4⟩
end

end Go.Proofs.Ytnepkpcoglfejaa
