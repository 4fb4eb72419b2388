/- From the row's laid variables (the powers of ten stand third on the list) to the table's fact. -/
import Derived.Test.YtbnoeoghhbhhcaaDoorFaultB
import Derived.Test.YtbnoeoghhbhhcaaDoorRows
import Derived.Lib.LaidTab
set_option linter.unusedVariables false
namespace Go.Proofs.YtbnoeoghhbhhcaaDoor
open Go.RowKit
theorem gTab : Tryd.prog.globalNamed "internal/strconv.uint64pow10" = some 0 := by kernel_rfl
theorem gTabT : (Tryd.prog.globals[0]?).map (·.type) = some 48 := by kernel_rfl
theorem pow10Data : (Rows.laid_internal_strconv_uint64pow10 : DataW Unit) = Lib.tabData .u64 Lib.pow10Tab := by rfl
theorem tab_of_laid {W : World} (h : laidMet Tryd.prog [("math/bits.deBruijn32tab", Rows.laid_math_bits_deBruijn32tab), ("math/bits.deBruijn64tab", Rows.laid_math_bits_deBruijn64tab), ("internal/strconv.uint64pow10", Rows.laid_internal_strconv_uint64pow10)] W) : Tab W := by
  obtain ⟨ps, ⟨_, _, _, _, _, _, _, _, _, _, ⟨_, _, _, _, _, _, _, _, _, _, ⟨g', t', cs, fuel, p, q, hg', ht', hvar, hd, _, _⟩, _⟩, _⟩, _⟩ := h
  obtain rfl := Option.some.inj (gTab.symm.trans hg')
  obtain rfl := Option.some.inj (gTabT.symm.trans ht')
  unfold Tab Lib.TabIs
  rw [pow10Data] at hd
  rw [hvar, ← Lib.cells_of_tab (n := 20) (e := 41) Tryd.underlying48 Tryd.underlying41 (by kernel_rfl) (by kernel_rfl) hd]
end Go.Proofs.YtbnoeoghhbhhcaaDoor
