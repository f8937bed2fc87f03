/- Contracts of lex.word, lex.passed, lex.token, strings.IndexByte in the form in which callers use them. -/
import Derived.Test.YthempkdgmobocaaDoorE6
namespace Go.Proofs.YthempkdgmobocaaDoorX
open Go Go.RowKit Go.Proofs.YthempkdgmobocaaDoorEd Go.Proofs.YthempkdgmobocaaDoorE
def lex_word.f (a0 : ByteArray) : Option Int := if a0.size ≤ 140737488355328 then some (wlen a0.data.toList : Nat) else none
theorem lex_word.calls (a0 : ByteArray) (r : Int) (w : World) (h : lex_word.f a0 = some r) :
    Calls Tryd.prog 44 #[.string a0] w fun e w' => e = .returned (.int .i64 r) ∧ Below w.heap.size w w' := by
  unfold lex_word.f at h
  split at h
  · rename_i hs
    cases h
    exact word_calls a0 (by unfold maxLen; omega) w
  · cases h
def lex_passed.f (a0 : ByteArray) : Option Int := if a0.size ≤ 140737488355328 then some ((a0.size : Int) - ((left a0.data.toList).length : Nat)) else none
theorem lex_passed.calls (a0 : ByteArray) (r : Int) (w : World) (h : lex_passed.f a0 = some r) :
    Calls Tryd.prog 29 #[.string a0] w fun e w' => e = .returned (.int .i64 r) ∧ Below w.heap.size w w' := by
  unfold lex_passed.f at h
  split at h
  · rename_i hs
    cases h
    exact passed_calls a0 (by unfold maxLen; omega) w
  · cases h
def lex_token.f (a0 : ByteArray) : Option (Int × Int × Int × ByteArray × Int) := if a0.size ≤ 140737488355328 then some (tokenR a0.data.toList) else none
theorem lex_token.calls (a0 : ByteArray) (r1 : Int) (r2 : Int) (r3 : Int) (r4 : ByteArray) (r5 : Int) (w : World) (hG : GoodW w) (h : lex_token.f a0 = some (r1, r2, r3, r4, r5)) :
    Calls Tryd.prog 45 #[.string a0] w fun e w' => e = .returned (.tuple #[.agg #[.int .u8 r1, .int .i64 r2, .int .i64 r3, .string r4], .int .i64 r5]) ∧ Below w.heap.size w w' := by
  unfold lex_token.f at h
  split at h
  · rename_i hs
    have h2 := Option.some.inj h
    have := token_calls a0 hs w hG
    rw [h2] at this
    exact this
  · cases h
def strings_IndexByte.f (a0 : ByteArray) (a1 : Int) : Option Int := some (Lib.indexByte a0.data.toList a1.toNat.toUInt8)
theorem strings_IndexByte.calls (a0 : ByteArray) (a1 : Int) (r : Int) (w : World) (h : strings_IndexByte.f a0 a1 = some r) :
    Calls Tryd.prog 43 #[.string a0, .int .u8 a1] w fun e w' => e = .returned (.int .i64 r) ∧ Below w.heap.size w w' := by
  cases h
  exact (Tryd.strings_IndexByte a0 a1 w).mono (by rintro e w' ⟨rfl, rfl⟩; exact ⟨rfl, Below.refl _ _⟩)
def ref05_letter.f (a0 : Int) : Option Bool := if 0 ≤ a0 ∧ a0 ≤ 255 then some (LetB a0) else none
theorem ref05_letter.calls (a0 : Int) (r : Bool) (w : World) (h : ref05_letter.f a0 = some r) :
    Calls Tryd.prog 33 #[.int .u8 a0] w fun e w' => e = .returned (.bool r) ∧ Below w.heap.size w w' := by
  unfold ref05_letter.f at h
  split at h
  · rename_i hs
    cases h
    exact (refLetter_calls a0 hs.1 hs.2 w).mono (by rintro e w' ⟨rfl, rfl⟩; exact ⟨rfl, Below.refl _ _⟩)
  · cases h
end Go.Proofs.YthempkdgmobocaaDoorX
