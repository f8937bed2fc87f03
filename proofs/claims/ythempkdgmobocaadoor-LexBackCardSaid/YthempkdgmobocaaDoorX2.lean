/- Contracts of lex.Lex, of the reference's Lex and of Same, by the plain law. -/
import Derived.Test.YthempkdgmobocaaDoorM5
namespace Go.Proofs.YthempkdgmobocaaDoorX
open Go Go.RowKit Go.Proofs.YthempkdgmobocaaDoorEd Go.Proofs.YthempkdgmobocaaDoorE Go.Proofs.YthempkdgmobocaaDoorM Go.Proofs.YthempkdgmobocaaDoor.L
open Go.Proofs.YthempkdgmobocaaDoorW.PrintWords

def lexC.f (a0 : ByteArray) : Option ((List (S30)) × Int × Int) := some (lexR a0)
theorem lexC.calls (a0 : ByteArray) (r1 : List (S30)) (r2 : Int) (r3 : Int) (w : World) (hG : GoodW w) (h : lexC.f a0 = some (r1, r2, r3)) :
    Calls Tryd.prog 17 #[.string a0] w fun e w' => ∃ v0_ : Value, e = .returned (.tuple #[v0_, .int .i64 r2, .int .i64 r3]) ∧ Kd.R k30 30 w' w.heap.size (fun _ => True) v0_ r1 ∧ Below w.heap.size w w' :=
  lex_Lex.calls 4002 a0 r1 r2 r3 w hG ((lex_pr a0).trans h)
def refLexC.f (a0 : ByteArray) : Option ((List (S30)) × Int × Int) := some (lexR a0)
theorem refLexC.calls (a0 : ByteArray) (r1 : List (S30)) (r2 : Int) (r3 : Int) (w : World) (h : refLexC.f a0 = some (r1, r2, r3)) :
    Calls Tryd.prog 18 #[.string a0] w fun e w' => ∃ v0_ : Value, e = .returned (.tuple #[v0_, .int .i64 r2, .int .i64 r3]) ∧ Kd.R k30 30 w' w.heap.size (fun _ => True) v0_ r1 ∧ Below w.heap.size w w' :=
  eddywheelref05_Lex.calls 16100 a0 r1 r2 r3 w ((refLex_pr a0).trans h)

theorem same_l0 (l : List S30) (hl : l.length ≤ 1000000) (d : Nat) : ∀ (k i : Nat), l.length - i = d → i ≤ l.length → d < k → eddywheelref05_Same.l0 k l l (i : Int) = some true := by
  induction d with
  | zero =>
    intro k i hd hi hk
    obtain ⟨k, rfl⟩ : ∃ m, k = m + 1 := ⟨k - 1, by omega⟩
    simp only [eddywheelref05_Same.l0]
    rw [if_neg (by omega)]
  | succ d ih =>
    intro k i hd hi hk
    obtain ⟨k, rfl⟩ : ∃ m, k = m + 1 := ⟨k - 1, by omega⟩
    simp only [eddywheelref05_Same.l0]
    rw [if_pos (by omega), if_pos (by omega), if_pos (by omega), if_neg (by simp), YthempkdgmobocaaDoorM.wrap_small _ (by omega) (by omega)]
    exact ih k (i + 1) (by omega) (by omega) (by omega)
def eqS (x y : S30) : Bool := x.f0 == y.f0 && x.f1 == y.f1 && x.f2 == y.f2 && x.f3.data.toList == y.f3.data.toList
def sameB : List S30 → List S30 → Bool
  | [], [] => true
  | x :: a, y :: b => eqS x y && sameB a b
  | _, _ => false
theorem eqS_eq (x y : S30) (h : eqS x y = true) : x = y := by
  obtain ⟨a, b, c, d⟩ := x
  obtain ⟨a', b', c', d'⟩ := y
  simp only [eqS, Bool.and_eq_true, beq_iff_eq] at h
  obtain ⟨⟨⟨rfl, rfl⟩, rfl⟩, h⟩ := h
  have : d = d' := by rw [← Lib.mk_data d, ← Lib.mk_data d', h]
  rw [this]
theorem sameB_eq (l m : List S30) (h : sameB l m = true) : l = m := by
  induction l generalizing m with
  | nil => cases m with
    | nil => rfl
    | cons y b => simp [sameB] at h
  | cons x a ih => cases m with
    | nil => simp [sameB] at h
    | cons y b =>
      simp only [sameB, Bool.and_eq_true] at h
      rw [eqS_eq x y h.1, ih b h.2]
theorem sameB_refl (l : List S30) : sameB l l = true := by
  induction l with
  | nil => rfl
  | cons x a ih => simp [sameB, ih, eqS]
def sameC.f (l0 : List (S30)) (l1 : List (S30)) : Option Bool := if sameB l0 l1 = true ∧ l0.length ≤ 1000000 then some true else none
theorem sameC.calls (A0 : Option Addr) (c0 : Nat) (l0 : List (S30)) (A1 : Option Addr) (c1 : Nat) (l1 : List (S30)) (r : Bool) (w : World) (hr0 : Kd.C k30 w A0 l0.length l0) (hc0 : l0.length ≤ c0) (hr1 : Kd.C k30 w A1 l1.length l1) (hc1 : l1.length ≤ c1) (h : sameC.f l0 l1 = some r) :
    Calls Tryd.prog 19 #[.slice A0 l0.length c0, .slice A1 l1.length c1] w fun e w' => e = .returned (.bool r) ∧ Below w.heap.size w w' := by
  unfold sameC.f at h
  split at h
  · rename_i hh
    obtain ⟨hq, hl⟩ := hh
    obtain rfl := sameB_eq _ _ hq
    cases h
    refine (eddywheelref05_Same.calls (l0.length + 1) A0 c0 l0 A1 c1 l0 true w hr0 hc0 hr1 hc1 ?_).mono fun e w' ⟨he, hd⟩ => ⟨he, hd.below⟩
    unfold eddywheelref05_Same.f
    rw [if_pos rfl]
    exact same_l0 l0 hl _ _ 0 rfl (by omega) (by omega)
  · cases h
theorem sameC_refl (l : List S30) (h : l.length ≤ 1000000) : sameC.f l l = some true := by
  unfold sameC.f; rw [if_pos ⟨sameB_refl l, h⟩]
end Go.Proofs.YthempkdgmobocaaDoorX
