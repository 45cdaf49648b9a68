/- From the row's condition to the table that strconv.Itoa reads. -/
import Derived.Test.YtgnlbmamolbcfaaDoorRows
import Derived.Test.YtgnlbmamolbcfaaDoorLawText
import Derived.Lib.LaidTab
import Derived.LaidMore
set_option linter.unusedVariables false
namespace Go.Proofs.YtgnlbmamolbcfaaDoor
open Go.RowKit Go.Shelf

set_option maxRecDepth 100000 in
theorem tab_of {W : World} (h : laidMetH Tryd.prog Rows.clauseTextRow.laid W) : Tab W := by
  rw [MakeChecks.laidMetH_plain _ _ _ (by kernel_rfl)] at h
  obtain ⟨ps, hv, _, _⟩ := h
  obtain ⟨g1, t1, c1, f1, p1, q1, _, _, _, _, hv, _⟩ := hv
  obtain ⟨g2, t2, c2, f2, p2, q2, _, _, _, _, hv, _⟩ := hv
  obtain ⟨g, t, cs, f, p, q, hg, ht, hvar, hd, _, _⟩ := hv
  obtain rfl := Option.some.inj ((show Tryd.prog.globalNamed (Rows.clauseTextRow.named.getD 0 default) = some 0 by kernel_rfl).symm.trans hg)
  obtain rfl := Option.some.inj ((show (Tryd.prog.globals[0]?).map (·.type) = some 109 by kernel_rfl).symm.trans ht)
  have hcs := Lib.cells_of_tab (k := .u64) (zs := Lib.pow10Tab) Tryd.underlying109 Tryd.underlying93 (by kernel_rfl) (by kernel_rfl) (hd.trans (by rfl))
  intro n h0 h1 W' hG
  refine Tryd.strconv_Itoa n h0 h1 W' (tab_gr ?_ hG)
  unfold Lib.TabIs
  rw [hvar, ← hcs]
end Go.Proofs.YtgnlbmamolbcfaaDoor
