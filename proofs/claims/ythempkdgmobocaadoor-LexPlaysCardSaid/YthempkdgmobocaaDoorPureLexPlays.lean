/- LexPlays, over numbers and lists: the two lexers give the same. -/
import Derived.Test.YthempkdgmobocaaDoorM6
namespace Go.Proofs.YthempkdgmobocaaDoor.Pure
open Go Go.RowKit Go.Proofs.YthempkdgmobocaaDoorEd Go.Proofs.YthempkdgmobocaaDoorE Go.Proofs.YthempkdgmobocaaDoorX Go.Proofs.YthempkdgmobocaaDoorM Go.Proofs.YthempkdgmobocaaDoor.L Go.Proofs.YthempkdgmobocaaDoor.Q
theorem LexPlays : eddywheellaw05_LexPlays.Pure := by
  intro x hx
  unfold eddywheellaw05_LexPlays.f
  rw [shown_true, Option.bind_some]
  by_cases h : (x.size : Int) > 5000
  · rw [if_pos h]
  · rw [if_neg h]
    unfold lexC.f refLexC.f
    have hl := lexR_len x
    generalize lexR x = r at hl ⊢
    rw [Option.bind_some, Option.bind_some, if_pos rfl, sameC_refl _ (by omega), Option.bind_some, if_pos rfl, if_pos rfl]
    simp
end Go.Proofs.YthempkdgmobocaaDoor.Pure
