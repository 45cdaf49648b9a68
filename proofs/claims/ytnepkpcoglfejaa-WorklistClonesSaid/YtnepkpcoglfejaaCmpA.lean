/- The comparison of sorted. -/
import Derived.Test.YtnepkpcoglfejaaLess
namespace Go.Proofs.Ytnepkpcoglfejaa
open Go.RowKit

def cfA (lt : (Int × Int) → (Int × Int) → Bool) (a b : (Int × Int) × Int) : Int := if a.2 = b.2 then 0 else if bfr lt a b then -1 else 1
section
variable {ok : (Int × Int) → Prop} {lt : (Int × Int) → (Int × Int) → Bool} {fv : Value}
set_option maxRecDepth 100000 in
set_option maxHeartbeats 800000 in
theorem cmpA (L : Lc Try.prog encXA ok lt fv (fun _ => False) (fun _ _ => True) Rg) (p q : Nat) (hv nv : Value) (a b : (Int × Int) × Int) (w : World) (hl : Bk w p 71 #[fv, hv, nv]) (hq : w.cell? ⟨q, 0, none⟩ = some (.pointer (some ⟨p, 0, none⟩))) (hql : q < w.heap.size) (oa : ok a.1) (ob : ok b.1) :
    Calls Try.prog 59 #[.agg (encEA a).toArray, .agg (encEA b).toArray, .pointer (some ⟨q, 0, none⟩)] w fun e w' => e = .returned (.int .i64 (cfA lt a b)) ∧ Rg w w' := by
  have HB := Lib.hid fun W (hW : Bk W p 71 #[fv, hv, nv]) => beforeA L p hv nv a b 0 W hW (fun h => h) oa ob trivial
  clear L oa ob
  unfold cfA
  generalize bfr lt a b = x at *
  obtain ⟨⟨a1, a2⟩, an⟩ := a
  obtain ⟨⟨b1, b2⟩, bn⟩ := b
  have hl2 : Hid (Bk ((w.alloc (.cells #[.int .i64 a1, .int .i64 a2, .int .i64 an] 73)).alloc (.cells #[.int .i64 b1, .int .i64 b2, .int .i64 bn] 73)) p 71 #[fv, hv, nv]) := (hl.alloc _).alloc _
  have hr2 : Hid (Rg w ((w.alloc (.cells #[.int .i64 a1, .int .i64 a2, .int .i64 an] 73)).alloc (.cells #[.int .i64 b1, .int .i64 b2, .int .i64 bn] 73))) := (Rg.alloc _ _).trans (Rg.alloc _ _)
  clear hl
  change Calls Try.prog 59 #[.agg #[.int .i64 a1, .int .i64 a2, .int .i64 an], .agg #[.int .i64 b1, .int .i64 b2, .int .i64 bn], .pointer (some ⟨q, 0, none⟩)] w _
  dsimp only
  go_enter Try.func59, Try.ntmps59
  by_cases hab : an = bn
  · subst hab
    rw [if_pos rfl]
    go_wp2
    go_ret
    exact ⟨rfl, hr2.out⟩
  · have hab' : (an == bn) = false := by simpa using hab
    rw [if_neg hab]
    go_wp2_with (go_at_call 56; refine (HB.out _ hl2.out).mono ?_; rintro e w3 ⟨rfl, _, r3⟩)
    all_goals (cases x)
    all_goals (go_wp2)
    all_goals (go_ret)
    all_goals exact ⟨rfl, hr2.out.trans r3⟩
end

end Go.Proofs.Ytnepkpcoglfejaa
