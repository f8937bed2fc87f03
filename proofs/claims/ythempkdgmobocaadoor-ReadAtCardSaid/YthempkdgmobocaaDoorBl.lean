/- Texts of this claim, one behind the other: LaidW. -/
import Derived.Test.YthempkdgmobocaaDoorRows
import Derived.Test.YthempkdgmobocaaDoorBa
import Derived.Stop.LaidErr
import Derived.LaidMore
import Derived.Lay
section
/- Out of what the rows list: the two errors of strconv hold an error. -/
namespace Go.Proofs.YthempkdgmobocaaDoorLaid
open Go Go.RowKit Go.Proofs.YthempkdgmobocaaDoorE Go.Proofs.YthempkdgmobocaaDoor
def laid : List (String × DataW Unit) := [("math/bits.deBruijn32tab", Rows.laid_math_bits_deBruijn32tab), ("math/bits.deBruijn64tab", Rows.laid_math_bits_deBruijn64tab), ("internal/strconv.uint64pow10", Rows.laid_internal_strconv_uint64pow10), ("unicode/utf8.acceptRanges", Rows.laid_unicode_utf8_acceptRanges), ("strconv.ErrRange", Rows.laid_strconv_ErrRange), ("strconv.ErrSyntax", Rows.laid_strconv_ErrSyntax), ("unicode/utf8.first", Rows.laid_unicode_utf8_first)]
theorem star : "*" ++ "errors.errorString" = "*errors.errorString" := by decide
theorem row125 (u : TypeId) (h : Tryd.prog.typeName? 3 u = some "*errors.errorString") : u = 125 :=
  typeName_ptr_named (nm := "errors.errorString") (by rw [star]; kernel_rfl) (by kernel_rfl) (by decide) u (by rw [star]; exact h)
theorem good_of_laid {W : World} (h : laidMetH Tryd.prog laid W) : GoodW W := by
  rw [MakeChecks.laidMetH_plain _ _ _ (by kernel_rfl)] at h
  have h4 := h.tail.tail.tail.tail
  have h5 := h4.tail
  obtain ⟨a0, _, hv0, _, _, _⟩ := laid_sentinel h4 gRange (by kernel_rfl) Tryd.underlying94 row125 Tryd.underlying125 Tryd.underlying127 rfl rfl Tryd.underlying9 (by kernel_rfl) (by kernel_rfl)
  obtain ⟨a1, _, hv1, _, _, _⟩ := laid_sentinel h5 gSyntax (by kernel_rfl) Tryd.underlying94 row125 Tryd.underlying125 Tryd.underlying127 rfl rfl Tryd.underlying9 (by kernel_rfl) (by kernel_rfl)
  exact ⟨⟨_, _, hv1⟩, ⟨_, _, hv0⟩⟩
end Go.Proofs.YthempkdgmobocaaDoorLaid
end
