/- The plain law: where a text is wrong, and where its tokens stand; rows of tokens, moved. -/
import Derived.Test.YthempkdgmobocaaDoorM6
namespace Go.Proofs.YthempkdgmobocaaDoorM
open Go Go.RowKit Go.Proofs.YthempkdgmobocaaDoorEd Go.Proofs.YthempkdgmobocaaDoorE Go.Proofs.YthempkdgmobocaaDoorX Go.Proofs.YthempkdgmobocaaDoor.L
open Go.Proofs.YthempkdgmobocaaDoorW.PrintWords

theorem lexA_err (s : List UInt8) : ∀ (p q e : Int), lexA s p = .error (q, e) → e ≠ 0 ∧ p ≤ q ∧ q ≤ p + s.length := by
  induction hn : s.length using Nat.strongRecOn generalizing s with
  | _ n ih =>
  intro p q e hl
  subst hn
  cases s with
  | nil => rw [lexA_nil] at hl; cases hl
  | cons c r =>
    have step : ∀ (z : List UInt8) (k : Int) (t : Tok), z.length ≤ r.length → p ≤ k → k + z.length ≤ p + 1 + r.length → cons t (lexA z k) = .error (q, e) → e ≠ 0 ∧ p ≤ q ∧ q ≤ p + (c :: r).length := by
      intro z k t hz hk hk2 h
      cases hx : lexA z k with
      | ok m => rw [hx] at h; cases h
      | error y =>
        rw [hx] at h; cases h
        have := ih z.length (by simp; omega) z rfl k q e hx
        simp only [List.length_cons]; omega
    have step0 : ∀ (z : List UInt8) (k : Int), z.length ≤ r.length → p ≤ k → k + z.length ≤ p + 1 + r.length → lexA z k = .error (q, e) → e ≠ 0 ∧ p ≤ q ∧ q ≤ p + (c :: r).length := by
      intro z k hz hk hk2 h
      have := ih z.length (by simp; omega) z rfl k q e h
      simp only [List.length_cons]; omega
    have hd := fun f => take_drop_len f r
    have ht := tail_le r
    rw [lexA_cons] at hl
    split at hl
    · exact step0 _ _ (Nat.le_refl _) (by omega) (by omega) hl
    split at hl
    · exact step0 _ _ (dropWhile_le _ _) (by omega) (by have := hd (· != 10); omega) hl
    split at hl
    · exact step _ _ _ (Nat.le_refl _) (by omega) (by omega) hl
    split at hl
    · exact step _ _ _ (Nat.le_refl _) (by omega) (by omega) hl
    split at hl
    · exact step _ _ _ (Nat.le_refl _) (by omega) (by omega) hl
    split at hl
    · split at hl
      · rename_i h; exact step _ _ _ ht (by omega) (by cases r <;> simp at h ⊢; omega) hl
      split at hl
      · rename_i h; exact step _ _ _ ht (by omega) (by cases r <;> simp at h ⊢; omega) hl
      · cases hl; simp only [List.length_cons]; exact ⟨by decide, by omega, by omega⟩
    split at hl
    · split at hl
      · rename_i e' he
        cases hl
        simp only [List.length_cons]
        exact ⟨one_err _ _ _ he, by omega, by omega⟩
      · exact step _ _ _ (dropWhile_le _ _) (by omega) (by have := hd isLet; omega) hl
    · cases hl; simp only [List.length_cons]; exact ⟨by decide, by omega, by omega⟩

theorem lexA_bounds (s : List UInt8) (p : Int) (l : List Tok) (h : lexA s p = .ok l) : ∀ t ∈ l, p ≤ t.pos ∧ t.pos ≤ p + s.length := by
  intro t ht
  obtain ⟨_, a, w, b, hs, hp, _, _⟩ := (lexA_stands s p l h).1 t ht
  have := congrArg List.length hs
  simp at this
  omega

/-- a token, moved, as the law's code has it. -/
def sh (n : Int) (s : S30) : S30 := ⟨s.f0, wrap64 (s.f1 + n), s.f2, s.f3⟩
theorem toS_mv (n : Int) (t : Tok) (h : -9000000000000000000 ≤ t.pos + n) (h2 : t.pos + n ≤ 9000000000000000000) : toS (mv n t) = sh n (toS t) := by
  unfold toS mv sh
  simp only []
  rw [YthempkdgmobocaaDoorM.wrap_small _ (by omega) (by omega)]
theorem map_toS_mv (n : Int) (l : List Tok) (h : ∀ t ∈ l, -9000000000000000000 ≤ t.pos + n ∧ t.pos + n ≤ 9000000000000000000) : (l.map (mv n)).map toS = (l.map toS).map (sh n) := by
  rw [List.map_map, List.map_map]
  exact List.map_congr_left fun t ht => toS_mv n t (h t ht).1 (h t ht).2
theorem rd_at (B : List S30) (i : Nat) (h : i < B.length) : rd_T30 B (i : Int) = B[i] := by
  unfold rd_T30
  rw [Int.toNat_natCast]
  simp [List.getD, h]
theorem fin_ok (l : List Tok) : fin [] (.ok l) = (l.map toS, 0, 0) := by simp [fin]
theorem append_list (x y : ByteArray) : (x ++ y).data.toList = x.data.toList ++ y.data.toList := by simp
end Go.Proofs.YthempkdgmobocaaDoorM
