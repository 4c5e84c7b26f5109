/- What a condition that lists the tables, too, gives the walks. Conditions: none. -/
import Derived.Test.YtjcbbmjmhfimcaaDoorRS
namespace Go.Proofs.YtjcbbmjmhfimcaaDoor.P
open Go.RowKit Go.Lib
theorem g_ofT {W : World} (h : laidMetH Tryd.prog laidT W) (hs : W.ShapedOpen Tryd.prog) : G W := by
  have h' : laidMet Tryd.prog [("math/bits.deBruijn32tab", Rows.laid_math_bits_deBruijn32tab), ("math/bits.deBruijn64tab", Rows.laid_math_bits_deBruijn64tab), ("internal/strconv.uint64pow10", Rows.laid_internal_strconv_uint64pow10)] W ∧ handlesMet Tryd.prog [("errors.errorType", Rows.laid_errors_errorType)] W := h
  exact ⟨et_of h'.2, Tryd.laysM145.s1_3 W hs⟩
theorem tab_ofT {W : World} (h : laidMetH Tryd.prog laidT W) : Tab W := by
  have h' : laidMet Tryd.prog [("math/bits.deBruijn32tab", Rows.laid_math_bits_deBruijn32tab), ("math/bits.deBruijn64tab", Rows.laid_math_bits_deBruijn64tab), ("internal/strconv.uint64pow10", Rows.laid_internal_strconv_uint64pow10)] W ∧ handlesMet Tryd.prog [("errors.errorType", Rows.laid_errors_errorType)] W := h
  obtain ⟨ps, ⟨_, _, _, _, _, _, _, _, _, _, ⟨_, _, _, _, _, _, _, _, _, _, ⟨g', t', cs, fuel, p, q, hg', ht', hvar, hd, _, _⟩, _⟩, _⟩, _⟩ := h'.1
  obtain rfl := Option.some.inj (tab_global.symm.trans hg')
  obtain rfl := Option.some.inj (g_tab.symm.trans ht')
  unfold Tab Lib.TabIs
  rw [hvar, ← Lib.cells_of_tab (k := .u64) (zs := Lib.pow10Tab) Tryd.underlying117 Tryd.underlying109 (by kernel_rfl) (by kernel_rfl) hd]
end Go.Proofs.YtjcbbmjmhfimcaaDoor.P
