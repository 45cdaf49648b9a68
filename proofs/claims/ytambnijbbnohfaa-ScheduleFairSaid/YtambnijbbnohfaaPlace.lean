/- next, whatever the script: the place of the next worker. -/
import Derived.Test.YtambnijbbnohfaaFinish
namespace Go.Proofs.Ytambnijbbnohfaa
open Go.RowKit

/-- The place, among the unfinished workers op, of the next one, ss being what is left of the script. -/
def place (op ss : List Int) (last : Int) : Nat := match ss with
  | s :: _ => (s % op.length).toNat
  | [] => placeOf op last
theorem place_lt (op ss : List Int) (last : Int) (h : 0 < op.length) : place op ss last < op.length := by
  unfold place
  split
  · have := Int.emod_lt_of_pos (‹Int› : Int) (show (0 : Int) < op.length by omega)
    have := Int.emod_nonneg (‹Int› : Int) (show (op.length : Int) ≠ 0 by omega)
    omega
  · exact placeOf_lt op last h

structure NextPost (gt m : Nat) (v : Value) (A : Option Addr) (last : Int) (w w' : World) : Prop where
  turn : ∃ A' c, Bk w' gt 61 #[v, .slice A' (m - 1) c, .int .i64 last] ∧ (1 < m → A' = A.map (·.add 1)) ∧ m - 1 ≤ c ∧ c ≤ maxLen
  grown : w.grownBy w' (some gt)

theorem next_any (A : Option Addr) (v : Value) (m c gt B : Nat) (last : Int) (w : World) (op ss : List Int) (hblk : Bk w gt 61 #[v, .slice A m c, .int .i64 last]) (hown : OwnI w (gt + 1) v op) (h0 : 0 < op.length) (hN : op.length ≤ 1000000)
    (hs : Sees w B A (ss.map (Value.int .u8))) (hm : ss.length = m) (hmc : m ≤ c) (hcM : c ≤ maxLen) (hby : ∀ x ∈ ss, 0 ≤ x ∧ x ≤ 255) :
    Calls Try.prog 32 #[.pointer (some ⟨gt, 0, none⟩)] w fun e w' => e = .returned (.int .i64 (place op ss last)) ∧ NextPost gt m v A last w w' := by
  match ss with
  | [] =>
    subst hm
    exact (next_b A v c gt last w op hblk hown hN).mono fun e w' ⟨he, hb⟩ => ⟨he, ⟨A, c, hblk.below hb hblk.lt, fun h => absurd h (by simp), by simp, hcM⟩, ⟨hb.os, hb.tape, hb.output, hb.size, fun k hk _ => hb.block k hk⟩⟩
  | s :: rest =>
    obtain ⟨ad, rfl, _, hcell⟩ := hs 0 (.int .u8 s) rfl
    have hsb := hby s (by simp)
    have hm1 : 0 < m := by rw [← hm]; simp
    refine (next_a ad v m c gt s last w op hblk hown h0 hN hm1 hmc hcM hcell hsb.1 hsb.2).mono fun e w' ⟨he, hb, hg⟩ => ⟨?_, ⟨_, _, hb, fun h => by rw [if_neg (by omega)]; rfl, by omega, by omega⟩, hg⟩
    rw [he]
    refine ret_int ?_
    have := Int.emod_nonneg s (show (op.length : Int) ≠ 0 by omega)
    show _ = ((s % op.length).toNat : Int)
    omega

end Go.Proofs.Ytambnijbbnohfaa
