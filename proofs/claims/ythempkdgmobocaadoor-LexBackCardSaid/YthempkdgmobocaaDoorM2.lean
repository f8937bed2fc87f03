import Derived.Test.YthempkdgmobocaaDoorM1
namespace Go.Proofs.YthempkdgmobocaaDoorEd
theorem dropWhile_all {α} (q : α → Bool) (a : List α) (h : ∀ x ∈ a, q x = true) : a.dropWhile q = [] := by
  induction a with
  | nil => rfl
  | cons x a ih => simp only [List.dropWhile, h x (List.mem_cons_self ..)]; exact ih fun y hy => h y (List.mem_cons_of_mem _ hy)
theorem takeWhile_all {α} (q : α → Bool) (a : List α) (h : ∀ x ∈ a, q x = true) : a.takeWhile q = a := by
  induction a with
  | nil => rfl
  | cons x a ih => simp only [List.takeWhile, h x (List.mem_cons_self ..)]; rw [ih fun y hy => h y (List.mem_cons_of_mem _ hy)]
theorem takeWhile_split {α} (q : α → Bool) (a : List α) : a.takeWhile q ++ a.dropWhile q = a := List.takeWhile_append_dropWhile

/-! ### Where tokens stand -/
theorem lexA_pos (s : List UInt8) : ∀ (p : Int) (l : List Tok), lexA s p = .ok l → ∀ t ∈ l, p ≤ t.pos := by
  induction hn : s.length using Nat.strongRecOn generalizing s with
  | _ n ih =>
  intro p l hl
  subst hn
  cases s with
  | nil => rw [lexA_nil] at hl; cases hl; simp
  | cons c r =>
    have step : ∀ (z : List UInt8) (k : Int) (t : Tok), z.length ≤ r.length → p ≤ k → p ≤ t.pos → cons t (lexA z k) = .ok l → ∀ u ∈ l, p ≤ u.pos := by
      intro z k t hz hk ht h
      cases hx : lexA z k with
      | error e => rw [hx] at h; cases h
      | ok m =>
        rw [hx] at h; cases h
        intro u hu
        rcases List.mem_cons.1 hu with rfl | hu
        · exact ht
        · have := ih z.length (by simp; omega) z rfl k m hx u hu
          omega
    have step0 : ∀ (z : List UInt8) (k : Int), z.length ≤ r.length → p ≤ k → lexA z k = .ok l → ∀ u ∈ l, p ≤ u.pos := by
      intro z k hz hk h u hu
      have := ih z.length (by simp; omega) z rfl k l h u hu
      omega
    rw [lexA_cons] at hl
    split at hl
    · exact step0 _ _ (Nat.le_refl _) (by omega) hl
    split at hl
    · exact step0 _ _ (dropWhile_le _ _) (by omega) hl
    split at hl
    · exact step _ _ _ (Nat.le_refl _) (by omega) (Int.le_refl _) hl
    split at hl
    · exact step _ _ _ (Nat.le_refl _) (by omega) (Int.le_refl _) hl
    split at hl
    · exact step _ _ _ (Nat.le_refl _) (by omega) (Int.le_refl _) hl
    split at hl
    · split at hl
      · exact step _ _ _ (tail_le _) (by omega) (Int.le_refl _) hl
      split at hl
      · exact step _ _ _ (tail_le _) (by omega) (Int.le_refl _) hl
      · cases hl
    split at hl
    · split at hl
      · cases hl
      · rename_i t ht
        refine step _ _ _ (dropWhile_le _ _) (by omega) ?_ hl
        unfold one at ht
        split at ht <;> split at ht <;> cases ht <;> exact Int.le_refl _
    · cases hl

/-- a text that is cut at a blank. -/
theorem lexA_cut (s : List UInt8) (x : UInt8) (t : List UInt8) (hx : x = 32 ∨ x = 10) : ∀ (p : Int),
    ∃ (z : List UInt8) (q : Int), p + s.length ≤ q ∧ lexA (s ++ x :: t) p = then_ (lexA s p) (lexA z q) := by
  have hb : isBlank x = true := by rcases hx with rfl | rfl <;> decide
  have hlx : isLet x = false := by rcases hx with rfl | rfl <;> decide
  induction hn : s.length using Nat.strongRecOn generalizing s with
  | _ n ih =>
  intro p
  subst hn
  cases s with
  | nil =>
    refine ⟨t, p + 1, by simp; omega, ?_⟩
    rw [lexA_nil, then_ok_nil, List.nil_append, lexA_cons, if_pos hb]
  | cons c r =>
    rw [List.cons_append, lexA_cons, lexA_cons c r]
    split
    · obtain ⟨z, q, hq, h⟩ := ih r.length (by simp) r rfl (p + 1)
      exact ⟨z, q, by simp only [List.length_cons]; omega, h⟩
    split
    · -- a remark
      by_cases hnl : ∃ a b, r = a ++ 10 :: b ∧ ∀ y ∈ a, y ≠ 10
      · obtain ⟨a, b, rfl, ha⟩ := hnl
        have e1 : (a ++ 10 :: b).dropWhile (· != 10) = 10 :: b := by
          rw [dropWhile_stop (· != 10) a 10 b (by decide)]
          rw [dropWhile_all _ _ (by simpa using ha)]; rfl
        have e2 : (a ++ 10 :: b).takeWhile (· != 10) = a := by
          rw [takeWhile_stop (· != 10) a 10 b (by decide)]
          rw [takeWhile_all _ _ (by simpa using ha)]
        have e3 : (a ++ 10 :: b ++ x :: t) = a ++ 10 :: (b ++ x :: t) := by simp
        have e4 : (a ++ 10 :: (b ++ x :: t)).dropWhile (· != 10) = 10 :: (b ++ x :: t) := by
          rw [dropWhile_stop (· != 10) a 10 _ (by decide)]
          rw [dropWhile_all _ _ (by simpa using ha)]; rfl
        have e5 : (a ++ 10 :: (b ++ x :: t)).takeWhile (· != 10) = a := by
          rw [takeWhile_stop (· != 10) a 10 _ (by decide)]
          rw [takeWhile_all _ _ (by simpa using ha)]
        rw [e3, e4, e5, e1, e2]
        obtain ⟨z, q, hq, h⟩ := ih (10 :: b).length (by simp; omega) (10 :: b) rfl (p + 1 + a.length)
        refine ⟨z, q, ?_, ?_⟩
        · simp only [List.length_cons, List.length_append] at hq ⊢; omega
        · rw [← List.cons_append]; exact h
      · have ha : ∀ y ∈ r, y ≠ 10 := by
          intro y hy he
          subst he
          apply hnl
          obtain ⟨a, b, hab, hna⟩ := List.eq_append_cons_of_mem hy
          exact ⟨a, b, hab, fun y hy he => hna (he ▸ hy)⟩
        have e1 : r.dropWhile (· != 10) = [] := dropWhile_all _ _ (by simpa using ha)
        refine ⟨(r ++ x :: t).dropWhile (· != 10), p + 1 + ((r ++ x :: t).takeWhile (· != 10)).length, ?_, ?_⟩
        · have : (r ++ x :: t).takeWhile (· != 10) = r ++ (x :: t).takeWhile (· != 10) := by
            rw [List.takeWhile_append_of_pos (by simpa using ha)]
          rw [this]; simp only [List.length_append, List.length_cons]; omega
        · rw [e1, lexA_nil, then_ok_nil]
    have mk : ∀ (y : Tok) (w : List UInt8) (k : Int), w.length ≤ r.length → k + w.length = p + 1 + r.length → ∃ (z : List UInt8) (q : Int), p + (c :: r).length ≤ q ∧ cons y (lexA (w ++ x :: t) k) = then_ (cons y (lexA w k)) (lexA z q) := by
      intro y w k hw hk
      obtain ⟨z, q, hq, h⟩ := ih w.length (by simp; omega) w rfl k
      refine ⟨z, q, by simp only [List.length_cons]; omega, ?_⟩
      rw [h, cons_then]
    have mke : ∀ e, ∃ (z : List UInt8) (q : Int), p + (c :: r).length ≤ q ∧ (Except.error e : Res) = then_ (.error e) (lexA z q) :=
      fun e => ⟨[], p + (c :: r).length, Int.le_refl _, rfl⟩
    have mtl : ∀ (y : Tok), r ≠ [] → ∃ (z : List UInt8) (q : Int), p + (c :: r).length ≤ q ∧ cons y (lexA ((r ++ x :: t).tail) (p + 2)) = then_ (cons y (lexA r.tail (p + 2))) (lexA z q) := by
      intro y hr
      cases r with
      | nil => exact absurd rfl hr
      | cons d r =>
        rw [List.cons_append, List.tail_cons, List.tail_cons]
        exact mk y r (p + 2) (by simp) (by simp only [List.length_cons]; omega)
    split
    · exact mk _ r (p + 1) (Nat.le_refl _) rfl
    split
    · exact mk _ r (p + 1) (Nat.le_refl _) rfl
    split
    · exact mk _ r (p + 1) (Nat.le_refl _) rfl
    rw [takeWhile_stop isLet r x t hlx, dropWhile_stop isLet r x t hlx]
    split
    · split
      · rename_i h
        exact mtl _ (by rintro rfl; simp at h)
      split
      · rename_i h
        exact mtl _ (by rintro rfl; simp at h)
      · exact mke _
    split
    · have hl := take_drop_len isLet r
      cases one (c :: r.takeWhile isLet) p with
      | error e => exact mke _
      | ok y => exact mk y _ _ (dropWhile_le _ _) (by omega)
    · exact mke _

/-! ### Blanks and remarks ahead -/
theorem lexA_blank (c : UInt8) (s : List UInt8) (p : Int) (h : isBlank c = true) : lexA (c :: s) p = lexA s (p + 1) := by
  rw [lexA_cons, if_pos h]
theorem lexA_remark (a s : List UInt8) (p : Int) (h : ∀ y ∈ a, y ≠ 10) : lexA (59 :: (a ++ 10 :: s)) p = lexA s (p + 2 + a.length) := by
  rw [lexA_cons, if_neg (by decide), if_pos (by decide)]
  rw [dropWhile_stop (· != 10) a 10 _ (by decide), dropWhile_all _ _ (by simpa using h), List.nil_append]
  rw [takeWhile_stop (· != 10) a 10 _ (by decide), takeWhile_all _ _ (by simpa using h)]
  rw [lexA_blank _ _ _ (by decide)]
  congr 1; omega
end Go.Proofs.YthempkdgmobocaaDoorEd
