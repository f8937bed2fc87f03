/- Small words for the walks. -/
import Derived.Below
import Derived.WalkKit
namespace Go.Proofs.YthempkdgmobocaaDoorE
open Go Go.RowKit
theorem cell_again (w : World) (a : Addr) (v : Value) : (w.setCell a v).cell? a = (w.cell? a).map fun _ => v := by
  simp only [World.setCell, World.cell?, Array.getElem?_modify, if_true]
  cases hh : w.heap[a.block]? with
  | none => rfl
  | some x =>
    cases x <;> simp
    cases hs : a.spot with
    | some _ => simp
    | none =>
      simp only [Option.isSome_none, Bool.false_eq_true, if_false]
      rename_i c _ _
      by_cases hc : a.off < c.size
      · simp [hc]
      · simp [hc]
theorem map_some' {α β : Type} (f : α → β) (x : α) : Option.map f (some x) = some (f x) := rfl
end Go.Proofs.YthempkdgmobocaaDoorE
