-- Written by myprint.py, a program of the session's own, out of the translation. Lean checks it.
import Derived.Test.YthempkdgmobocaaDoorProg
import Derived.Below
import Derived.Deep.Draws
import Derived.Deep.AppendLies
import Derived.Maps.AppendAt
import Derived.OwnWalk
import Derived.Laws.BytesArg
import Derived.Laws.MakeOwn
import Derived.Laws.OwnMore
import Derived.Deep.OwnRows
import Derived.Tactics
import Derived.Lib.ConvBytes
import Derived.Laws.Slices
import Derived.WalkKit
import Derived.KernelRfl
import Derived.RowKit3
import Derived.Deep.LoopGhost
import Derived.Deep.QuietTactic
import Derived.BigQuiet
import Derived.WideLaws
import Derived.Deep.DeepCutAuto
import Derived.Deep.CutBlock
import Derived.Deep.RegionHeld3
import Derived.Laws.Rows
import Derived.Lib.AppendStr
import Derived.ArgAppend
import Derived.Laws.IdiomCopy
import Derived.OrdersHeld
import Derived.Laws.BitsLemmas
import Derived.RowKit
import Derived.Test.YthempkdgmobocaaDoorX2
import Derived.Test.YthempkdgmobocaaDoorWWords
import Derived.Test.YthempkdgmobocaaDoorWLast
import Derived.Test.YthempkdgmobocaaDoorWTab
import Derived.Test.YthempkdgmobocaaDoorWFour
import Derived.Test.YthempkdgmobocaaDoorWQPut
import Derived.Test.YthempkdgmobocaaDoorWApart
import Derived.Test.YthempkdgmobocaaDoorWArr
import Derived.Test.YthempkdgmobocaaDoorWZeros
import Derived.Test.YthempkdgmobocaaDoorWFoot
import Derived.Test.YthempkdgmobocaaDoorWKept
import Derived.Test.YthempkdgmobocaaDoorWShare
import Derived.Test.YthempkdgmobocaaDoorWN
import Derived.Test.YthempkdgmobocaaDoorWFootNe
import Derived.Test.YthempkdgmobocaaDoorWAt
import Derived.Test.YthempkdgmobocaaDoorWEqStruct
import Derived.Test.YthempkdgmobocaaDoorWRepsOne
import Derived.Test.YthempkdgmobocaaDoorWInv
import Derived.Test.YthempkdgmobocaaDoorWInvWords
import Derived.Test.YthempkdgmobocaaDoorWGuard
import Derived.Test.YthempkdgmobocaaDoorWNEv
import Derived.Test.YthempkdgmobocaaDoorWMore
import Derived.Test.YthempkdgmobocaaDoorLx0
namespace Go.Proofs.YthempkdgmobocaaDoor.Q
open Go.RowKit Go.Proofs.YthempkdgmobocaaDoorX Go.Proofs.YthempkdgmobocaaDoorE Go.Proofs.YthempkdgmobocaaDoor.L Go.Proofs.YthempkdgmobocaaDoorW.PrintWords Go.Proofs.YthempkdgmobocaaDoorW.PrintLast Go.Proofs.YthempkdgmobocaaDoorW.PrintMore
attribute [local go_sem] max2_int min2_int max_two min_two max_three min_three max_four min_four   -- for this text's walks alone
attribute [local go_sem] cell_again map_some'
set_option linter.unusedVariables false
set_option linter.unusedSimpArgs false



theorem info5 : (Tryd.prog.info? 5).map (fun i => (i.zero, i.size, i.bytes)) = some (some (.int .u8 0), 1, 1) := by kernel_rfl
theorem info9 : (Tryd.prog.info? 9).map (fun i => (i.zero, i.size, i.bytes)) = some (some (.string ⟨#[]⟩), 1, 16) := by kernel_rfl
-- the values' own types
/-! #### struct type 30 -/
def rd_L4 (xs : List (List S30)) (i : Int) : (List S30) := xs.getD i.toNat ([] : List S30)
theorem at_L4 {w : World} {A : Option Addr} {n : Nat} {xs : List (List S30)} (h : Kd.C (Kd.slice 30 k30) w A n xs) (i : Int) (h0 : 0 ≤ i) (h1 : i < n) : ∃ ad A0 c0, A = some ad ∧ w.cell? (ad.add i.toNat) = some (.slice A0 (rd_L4 xs i).length c0) ∧ (rd_L4 xs i).length ≤ c0 ∧ k30.C w A0 (rd_L4 xs i).length (rd_L4 xs i) := by
  obtain ⟨ad, c, e, _, hK, hc0⟩ := Kd.C_get h ([] : List S30) i h0 h1
  have hc : ∀ j u, c[j]? = some u → w.cell? (ad.add (i.toNat * 1 + j)) = some u := hc0
  obtain ⟨A0, c0, rfl, l0, g0⟩ := hK
  exact ⟨ad, A0, c0, e, by have hq := hc 0 _ rfl; rwa [Nat.mul_one, Nat.add_zero] at hq, l0, g0⟩

end Go.Proofs.YthempkdgmobocaaDoor.Q
