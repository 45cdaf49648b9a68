/- append in a region that draws its order. No program in sight. -/
import Derived.Test.YtnepkpcoglfejaaRow
namespace Go.Proofs.Ytnepkpcoglfejaa
open Go.RowKit

theorem step_appS {P : Program} {t e size bytes : Nat} (h : ElemS P t e size bytes) {ops : Array Oper} {w : World} {o : Oper} {a : Act} {K : Act → World → Prop} {Q : Exit → Act → World → Prop} {E : Prop} (hgd : o.guard = none) (s x : Operand) (ho : o.op = .call { callee := .builtin .append, args := #[s, x], argTypes := #[t, t] })
    (base : Nat) (v : Value) (n : Nat) (xs : List Value) (hs : a.eval s = v) (hown : w.ownsRow base e size v n xs) (ad : Addr) (m c : Nat) (news : List Value) (hx : a.eval x = .slice (some ad) m c) (hl : news.length = m * size) (hnews : ∀ j u, news[j]? = some u → w.cell? (ad.add j) = some u) (h1 : ∀ u ∈ news, u.oneCell' = true)
    (h63 : n + m ≤ maxLen) (hbytes : (n + m) * bytes ≤ 140737488355328) (hbase : base ≤ w.heap.size)
    (hK : ∀ v' w', w'.ownsRow base e size v' (n + m) (xs ++ news) → w.grownBy w' v.ownBlock → (v'.ownBlock = v.ownBlock ∨ v'.ownBlock = some w.heap.size) → K (a.put o.dst v') w') :
    if Region.wanted o (yielded ops a.tmps) = true then Oper.wp P o a w K Q else E := by
  have hw : Region.wanted o (yielded ops a.tmps) = true := by simp [Region.wanted, hgd]
  obtain ⟨i, z, hi, hz, hsz, hby, hzs⟩ := h.hi
  rw [if_pos hw]
  obtain ⟨v', w', hrun, h2, h3, _, h5⟩ := run_append_own_at (P := P) w base t o.type e i z size bytes h.ht hi hz hsz hby hzs h.pos v n xs hown ad m c news hl hnews h1 h63 hbytes hbase
  unfold Oper.wp execOp
  simp only [ho, resolve, invoke, builtin, Sem.run_bind, Sem.run_pure, Result.andThen_ok, List.map_toArray, List.map_cons, List.map_nil, hs, hx, hrun]
  exact hK v' w' h2 h3 h5
theorem made_cells (w : World) (t : TypeId) (us : Array Value) (j : Nat) (u : Value) (h : us.toList[j]? = some u) : ((w.alloc (.cells us t)).drew).cell? ((⟨w.heap.size, 0, none⟩ : Addr).add j) = some u := by
  rw [add_mk, Nat.zero_add]
  refine ((Bk.made w t us).cell j).trans ?_
  rw [← Array.getElem?_toList]
  exact h
theorem fr_of {w w' : World} {o : Obj} {v : Value} (hg : ((w.alloc o).drew).grownBy w' v.ownBlock) : Fr (fun b => v.ownBlock = some b) w w' := by
  have hsz : ((w.alloc o).drew).heap.size = w.heap.size + 1 := World.size_alloc ..
  refine ⟨?_, fun b hb hne => (hg.block b (by omega) (fun e => hne e.symm)).trans (Below.heap_alloc w o b hb)⟩
  have hb0 : Below 0 w ((w.alloc o).drew) := ((Below.refl _ _).alloc (Nat.zero_le _) _).drew
  exact hb0.grown hg (Nat.zero_le _) (fun _ _ => Nat.zero_le _)


end Go.Proofs.Ytnepkpcoglfejaa
