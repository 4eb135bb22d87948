/- The library's table of white space, out of the rows' own conditions. -/
import Derived.Test.YtlnldnenkajcdaaDoorCf
import Derived.Test.YtlnldnenkajcdaaDoorFo
import Derived.LaidSub
import Derived.Lib.LaidTab
set_option linter.unusedVariables false
set_option linter.unusedSimpArgs false
namespace Go.Proofs.YtlnldnenkajcdaaDoor
open Go.RowKit
theorem tab_of_list {W : World} {l : List (String × DataW Unit)} (hp : (l.all fun x => x.2.handleName?.isNone) = true) (he : (l.filter fun x => x.1 == "strings.asciiSpace") = [("strings.asciiSpace", Lib.tabData .u8 Lib.asciiSpaceTab)]) (h : laidMetH Tryd.prog l W) : Tab W := by
  rw [MakeChecks.laidMetH_plain _ _ _ hp] at h
  have h2 := h.filter (fun x => x.1 == "strings.asciiSpace")
  rw [he] at h2
  exact Lib.tabIs_of_head tab_named (by kernel_rfl) Tryd.underlying63 Tryd.underlying5 (by kernel_rfl) (by kernel_rfl) h2
theorem tab_of_FnExactWordsOf {W : World} (h : laidMetH Tryd.prog Rows.fnExactWordsOfRow.laid W) : Tab W := tab_of_list (by kernel_rfl) (by kernel_rfl) h
theorem tab_of_FnExactFillGreedy {W : World} (h : laidMetH Tryd.prog Rows.fnExactFillGreedyRow.laid W) : Tab W := tab_of_list (by kernel_rfl) (by kernel_rfl) h
end Go.Proofs.YtlnldnenkajcdaaDoor
