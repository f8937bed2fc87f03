/- The plain law of LexPlays: the two lexers, which both compute the plain law, agree. -/
import Derived.Test.YthempkdgmobocaaDoorQx3
namespace Go.Proofs.YthempkdgmobocaaDoorM
open Go Go.RowKit Go.Proofs.YthempkdgmobocaaDoorEd Go.Proofs.YthempkdgmobocaaDoorE Go.Proofs.YthempkdgmobocaaDoorX Go.Proofs.YthempkdgmobocaaDoor.L Go.Proofs.YthempkdgmobocaaDoor.Q
open Go.Proofs.YthempkdgmobocaaDoorW.PrintWords

theorem lexA_len (s : List UInt8) : ∀ (p : Int) (l : List Tok), lexA s p = .ok l → l.length ≤ s.length := by
  induction hn : s.length using Nat.strongRecOn generalizing s with
  | _ n ih =>
  intro p l hl
  subst hn
  cases s with
  | nil => rw [lexA_nil] at hl; cases hl; simp
  | cons c r =>
    have step : ∀ (z : List UInt8) (k : Int) (t : Tok), z.length ≤ r.length → cons t (lexA z k) = .ok l → l.length ≤ (c :: r).length := by
      intro z k t hz h
      cases hx : lexA z k with
      | error e => rw [hx] at h; cases h
      | ok m =>
        rw [hx] at h; cases h
        have := ih z.length (by simp; omega) z rfl k m hx
        simp only [List.length_cons]; omega
    have step0 : ∀ (z : List UInt8) (k : Int), z.length ≤ r.length → lexA z k = .ok l → l.length ≤ (c :: r).length := by
      intro z k hz h
      have := ih z.length (by simp; omega) z rfl k l h
      simp only [List.length_cons]; omega
    rw [lexA_cons] at hl
    split at hl
    · exact step0 _ _ (Nat.le_refl _) hl
    split at hl
    · exact step0 _ _ (dropWhile_le _ _) hl
    split at hl
    · exact step _ _ _ (Nat.le_refl _) hl
    split at hl
    · exact step _ _ _ (Nat.le_refl _) hl
    split at hl
    · exact step _ _ _ (Nat.le_refl _) hl
    split at hl
    · split at hl
      · exact step _ _ _ (tail_le _) hl
      split at hl
      · exact step _ _ _ (tail_le _) hl
      · cases hl
    split at hl
    · split at hl
      · cases hl
      · exact step _ _ _ (dropWhile_le _ _) hl
    · cases hl
theorem lexR_len (x : ByteArray) : (lexR x).1.length ≤ 4000 := by
  unfold lexR
  split
  · simp
  · cases h : lexA x.data.toList 0 with
    | error e => simp [fin]
    | ok l =>
      have := lexA_len _ _ _ h
      simp [fin] at this ⊢
      omega
theorem example_lex : lexA [40, 43, 32, 45, 50, 32, 120, 41] 0 = .ok [⟨1, 0, 0, []⟩, ⟨6, 1, 0, [43]⟩, ⟨4, 3, -2, []⟩, ⟨6, 6, 0, [120]⟩, ⟨2, 7, 0, []⟩] := by rfl
theorem shown_true : eddywheellaw05_shown.f = some true := by
  have h : lexC.f (⟨#[40, 43, 32, 45, 50, 32, 120, 41]⟩ : ByteArray) = some ([(⟨1, 0, 0, (⟨#[]⟩ : ByteArray)⟩ : S30), (⟨6, 1, 0, (⟨#[43]⟩ : ByteArray)⟩ : S30), (⟨4, 3, (-2), (⟨#[]⟩ : ByteArray)⟩ : S30), (⟨6, 6, 0, (⟨#[120]⟩ : ByteArray)⟩ : S30), (⟨2, 7, 0, (⟨#[]⟩ : ByteArray)⟩ : S30)], 0, 0) := by
    unfold lexC.f lexR
    rw [if_neg (by decide)]
    show some (fin [] (lexA [40, 43, 32, 45, 50, 32, 120, 41] 0)) = _
    rw [example_lex]
    rfl
  unfold eddywheellaw05_shown.f
  rw [h, Option.bind_some, if_pos rfl, if_pos rfl, sameC_refl _ (by simp), Option.bind_some]
end Go.Proofs.YthempkdgmobocaaDoorM
