/- The plain law: what the reference's Lex computes, by its printed form: the same. -/
import Derived.Test.YthempkdgmobocaaDoorM4
namespace Go.Proofs.YthempkdgmobocaaDoorM
open Go Go.RowKit Go.Proofs.YthempkdgmobocaaDoorEd Go.Proofs.YthempkdgmobocaaDoorE Go.Proofs.YthempkdgmobocaaDoorX Go.Proofs.YthempkdgmobocaaDoor.L
open Go.Proofs.YthempkdgmobocaaDoorW.PrintWords

theorem drop_cons_of (x : ByteArray) (p : Nat) (h : p < x.size) : ∃ c r, x.data.toList.drop p = c :: r ∧ bt x p = c.toNat ∧ x.data.toList.drop (p + 1) = r := by
  cases hx : x.data.toList.drop p with
  | nil => have := congrArg List.length hx; simp at this; omega
  | cons c r =>
    obtain ⟨_, h2, h3⟩ := bt_head x p c r hx
    exact ⟨c, r, rfl, h2, h3⟩
theorem letB_nat (c : UInt8) : LetB (c.toNat : Int) = isLet c := by
  unfold LetB; simp
theorem ref_letter_pr (c : UInt8) : ref05_letter.f (c.toNat : Int) = some (isLet c) := by
  unfold ref05_letter.f
  have := c.toNat_lt
  rw [if_pos (by omega), letB_nat]
theorem wlen_cons_yes (c : UInt8) (r : List UInt8) (h : isLet c = true) : wlen (c :: r) = wlen r + 1 := by simp [wlen, List.takeWhile, h]
theorem wlen_cons_no (c : UInt8) (r : List UInt8) (h : isLet c = false) : wlen (c :: r) = 0 := by simp [wlen, List.takeWhile, h]

theorem word_l0 (x : ByteArray) (hs : x.size ≤ 4000) (a : Nat) (d : Nat) : ∀ (k i : Nat), x.size - i = d → i ≤ x.size → a ≤ i → d < k →
    eddywheelref05_word.l0 k x (a : Int) (i : Int) = some (x.extract a (i + wlen (x.data.toList.drop i))) := by
  induction d with
  | zero =>
    intro k i hd hi ha hk
    obtain ⟨k, rfl⟩ : ∃ m, k = m + 1 := ⟨k - 1, by omega⟩
    simp only [eddywheelref05_word.l0]
    rw [if_neg (by omega), if_pos (by omega), if_pos (by omega), if_pos (by omega), List.drop_of_length_le (by simp; omega)]
    rfl
  | succ d ih =>
    intro k i hd hi ha hk
    obtain ⟨k, rfl⟩ : ∃ m, k = m + 1 := ⟨k - 1, by omega⟩
    simp only [eddywheelref05_word.l0]
    obtain ⟨c, r, h1, h2, h3⟩ := drop_cons_of x i (by omega)
    rw [if_pos (by omega), if_pos (by omega), h2, ref_letter_pr, Option.bind_some]
    cases hl : isLet c with
    | true =>
      rw [if_pos rfl, wrap_small _ (by omega) (by omega)]
      have e : (i : Int) + 1 = ((i + 1 : Nat) : Int) := by omega
      rw [e, ih k (i + 1) (by omega) (by omega) (by omega) (by omega), h3, h1, wlen_cons_yes c r hl]
      congr 2
      omega
    | false =>
      rw [if_neg (by simp), if_pos (by omega), if_pos (by omega), if_pos (by omega), h1, wlen_cons_no c r hl]
      rfl
theorem ref_word_pr (x : ByteArray) (hs : x.size ≤ 4000) (k i : Nat) (hi : i ≤ x.size) (hk : x.size - i < k) :
    eddywheelref05_word.f k x (i : Int) = some (x.extract i (i + wlen (x.data.toList.drop i))) :=
  word_l0 x hs i _ k i rfl hi (Nat.le_refl _) hk
theorem word_data (x : ByteArray) (i : Nat) : (x.extract i (i + wlen (x.data.toList.drop i))).data.toList = (x.data.toList.drop i).takeWhile isLet := by
  rw [Lib.extract_data]
  have : i + wlen (x.data.toList.drop i) - i = ((x.data.toList.drop i).takeWhile isLet).length := by unfold wlen; omega
  rw [this]
  conv => lhs; arg 2; rw [← takeWhile_split isLet (x.data.toList.drop i)]
  rw [List.take_left]

theorem number_l0 (x : ByteArray) (hs : x.size ≤ 4000) (d : Nat) : ∀ (k i : Nat), x.size - i = d → i ≤ x.size → d < k →
    eddywheelref05_number.l0 k x (i : Int) = some ((x.data.toList.drop i).all isDig && decide (0 < x.size)) := by
  induction d with
  | zero =>
    intro k i hd hi hk
    obtain ⟨k, rfl⟩ : ∃ m, k = m + 1 := ⟨k - 1, by omega⟩
    simp only [eddywheelref05_number.l0]
    rw [if_neg (by omega), List.drop_of_length_le (by simp; omega)]
    have : decide ((x.size : Int) > 0) = decide (0 < x.size) := decide_eq_decide.2 (by omega)
    rw [this]; rfl
  | succ d ih =>
    intro k i hd hi hk
    obtain ⟨k, rfl⟩ : ∃ m, k = m + 1 := ⟨k - 1, by omega⟩
    simp only [eddywheelref05_number.l0]
    obtain ⟨c, r, h1, h2, h3⟩ := drop_cons_of x i (by omega)
    have hdg := isDig_nat c
    rw [if_pos (by omega), if_pos (by omega), h2, h1]
    by_cases ha : (c.toNat : Int) < 48
    · have : isDig c = false := by rw [hdg]; simp; omega
      rw [if_pos ha]; simp [this]
    by_cases hb : (c.toNat : Int) > 57
    · have : isDig c = false := by rw [hdg]; simp; omega
      rw [if_neg ha, if_pos hb]; simp [this]
    · have : isDig c = true := by rw [hdg]; simp; omega
      rw [if_neg ha, if_neg hb, wrap_small _ (by omega) (by omega)]
      have e : (i : Int) + 1 = ((i + 1 : Nat) : Int) := by omega
      rw [e, ih k (i + 1) (by omega) (by omega) (by omega), h3]
      simp [this]
theorem number_pr (x : ByteArray) (hs : x.size ≤ 4000) (k : Nat) (h0 : 0 < x.size) (hk : x.size + 1 < k) : eddywheelref05_number.f k x = some (isNum x.data.toList) := by
  unfold eddywheelref05_number.f
  obtain ⟨c, r, h1, h2, h3⟩ := drop_cons_of x 0 h0
  obtain ⟨k, rfl⟩ : ∃ m, k = m + 1 := ⟨k - 1, by omega⟩
  have h2 : bt x 0 = c.toNat := h2
  have hx : x.data.toList = c :: r := by simpa using h1
  have hr : r.length + 1 = x.size := by rw [Lib.size_eq, hx]; rfl
  rw [if_pos (by omega), h2]
  by_cases hc : (c.toNat : Int) = 45
  · rw [if_pos hc, if_pos (by omega)]
    simp only [eddywheelref05_number.j0]
    have hd : (x.extract 1 x.size).data.toList = r := by rw [extract_drop]; exact h3
    have hz : (x.extract 1 x.size).size = r.length := by rw [Lib.size_eq, hd]
    have := number_l0 (x.extract 1 x.size) (by omega) _ k 0 rfl (by omega) (by omega)
    have e0 : ((0 : Nat) : Int) = 0 := rfl
    rw [e0] at this
    rw [this, hd, hz]
    have hc' : c = 45 := (toNat_eq c 45 (by omega)).1 hc
    rw [hx, hc']
    unfold isNum
    simp only [List.drop_zero]
    congr 1
    cases r with
    | nil => rfl
    | cons a b => simp
  · rw [if_neg hc]
    simp only [eddywheelref05_number.j0]
    have := number_l0 x hs _ k 0 rfl (by omega) (by omega)
    have e0 : ((0 : Nat) : Int) = 0 := rfl
    rw [e0] at this
    rw [this, hx]
    have hc' : c ≠ 45 := fun e => hc (by rw [e]; rfl)
    unfold isNum
    split
    · rename_i heq; cases heq; exact absurd rfl hc'
    · simp [h0]

theorem value_l0 (x : ByteArray) (hs : x.size ≤ 14) (d : Nat) : ∀ (k i : Nat) (acc : Int), x.size - i = d → i ≤ x.size → d < k → 0 ≤ acc → acc < 10 ^ i → (∀ c ∈ x.data.toList.drop i, isDig c = true) →
    eddywheelref05_value.l0 k x acc (i : Int) = some ((x.data.toList.drop i).foldl (fun n c => n * 10 + ((c.toNat : Int) - 48)) acc) := by
  induction d with
  | zero =>
    intro k i acc hd hi hk h0 h1 hall
    obtain ⟨k, rfl⟩ : ∃ m, k = m + 1 := ⟨k - 1, by omega⟩
    simp only [eddywheelref05_value.l0]
    rw [if_neg (by omega), List.drop_of_length_le (by simp; omega)]
    rfl
  | succ d ih =>
    intro k i acc hd hi hk h0 h1 hall
    obtain ⟨k, rfl⟩ : ∃ m, k = m + 1 := ⟨k - 1, by omega⟩
    simp only [eddywheelref05_value.l0]
    obtain ⟨c, r, e1, e2, e3⟩ := drop_cons_of x i (by omega)
    have hc := hall c (by rw [e1]; exact List.mem_cons_self ..)
    rw [isDig_nat] at hc
    have hc2 : 48 ≤ c.toNat ∧ c.toNat ≤ 57 := by simpa using hc
    have hp : (10 : Int) ^ i ≤ 10 ^ 13 := by exact_mod_cast Nat.pow_le_pow_right (by omega) (by omega : i ≤ 13)
    have hp1 : (10 : Int) ^ (i + 1) = 10 ^ i * 10 := Int.pow_succ ..
    rw [if_pos (by omega), if_pos (by omega), e2]
    have e4 : ((c.toNat : Int) - 48) % 256 = (c.toNat : Int) - 48 := by omega
    rw [e4, wrap_small (acc * 10) (by omega) (by omega), wrap_small _ (by omega) (by omega), wrap_small _ (by omega) (by omega)]
    have e : (i : Int) + 1 = ((i + 1 : Nat) : Int) := by omega
    rw [e, ih k (i + 1) _ (by omega) (by omega) (by omega) (by omega) (by rw [hp1]; omega) (by rw [e3]; intro y hy; exact hall y (by rw [e1]; exact List.mem_cons_of_mem _ hy)), e3, e1]
    rfl
theorem value_pr (x : ByteArray) (hs : x.size ≤ 14) (k : Nat) (h : isNum x.data.toList = true) (hk : 30 < k) : eddywheelref05_value.f k x = some (val x.data.toList) := by
  have plain : ∀ (y : ByteArray) (k : Nat), y.size ≤ 14 → 20 < k → y.data.toList ≠ [] → (∀ c ∈ y.data.toList, isDig c = true) → eddywheelref05_value.f k y = some (val0 y.data.toList) := by
    intro y k hy hk hne hd
    obtain ⟨k, rfl⟩ : ∃ m, k = m + 1 := ⟨k - 1, by omega⟩
    simp only [eddywheelref05_value.f]
    have h0 : 0 < y.size := by rw [Lib.size_eq]; exact List.length_pos_iff.2 hne
    obtain ⟨c, r, e1, e2, e3⟩ := drop_cons_of y 0 h0
    have e2 : bt y 0 = c.toNat := e2
    have hx : y.data.toList = c :: r := by simpa using e1
    have hc := hd c (by rw [hx]; exact List.mem_cons_self ..)
    have hn : ¬ ((c.toNat : Int) = 45) := by intro e; rw [isDig_nat] at hc; simp at hc; omega
    rw [if_pos (by omega), e2, if_neg hn]
    have := value_l0 y hy _ k 0 0 rfl (by omega) (by omega) (by omega) (by decide) (by simpa using hd)
    exact this
  obtain ⟨k, rfl⟩ : ∃ m, k = m + 1 := ⟨k - 1, by omega⟩
  rcases isNum_cases _ h with ⟨r, hr, hne, hd⟩ | ⟨hne, hd⟩
  · simp only [eddywheelref05_value.f]
    have hz : x.size = r.length + 1 := by rw [Lib.size_eq, hr]; rfl
    obtain ⟨_, e2, e3⟩ := bt_head x 0 45 r (by simpa using hr)
    have e2 : bt x 0 = 45 := e2
    rw [if_pos (by omega), e2, if_pos rfl, if_pos (by omega)]
    have hd2 : (x.extract 1 x.size).data.toList = r := by rw [extract_drop]; exact e3
    have hz2 : (x.extract 1 x.size).size = r.length := by rw [Lib.size_eq, hd2]
    rw [plain _ k (by omega) (by omega) (by rw [hd2]; exact hne) (by rw [hd2]; exact hd), hd2, Option.bind_some, hr]
    have b := val0_bd r hd
    have : (10 : Int) ^ r.length ≤ 10 ^ 13 := by exact_mod_cast Nat.pow_le_pow_right (by omega) (by omega)
    rw [wrap_small _ (by omega) (by omega)]
    rfl
  · rw [(isNum_digs _ hd hne).2]
    exact plain x (k + 1) hs (by omega) hne hd

/-- the token of a word, flat. -/
def oneR (w : List UInt8) (p : Int) : Int × Int × Int × ByteArray × Int :=
  match one w p with
  | .error e => (0, 0, 0, ⟨#[]⟩, e)
  | .ok t => (t.kind, t.pos, t.n, ⟨t.s.toArray⟩, 0)
theorem one_pr (x : ByteArray) (hs : x.size ≤ 4000) (h0 : 0 < x.size) (k : Nat) (hk : x.size + 40 < k) (p : Int) : eddywheelref05_one.f k x p = some (oneR x.data.toList p) := by
  unfold eddywheelref05_one.f oneR one
  have hz := Lib.size_eq x
  rw [number_pr x hs k h0 (by omega), Option.bind_some]
  cases hn : isNum x.data.toList with
  | true =>
    rw [if_pos rfl, if_pos rfl]
    by_cases h14 : (x.size : Int) > 14
    · rw [if_pos h14, if_pos (by omega)]
    · rw [if_neg h14, value_pr x (by omega) k hn (by omega), Option.bind_some]
      by_cases h13 : (x.size : Int) > 13
      · rw [if_pos h13, if_pos (by omega)]
      rw [if_neg h13]
      by_cases h1 : val x.data.toList ≤ -1099511627776
      · rw [if_pos h1, if_pos (by omega)]
      rw [if_neg h1]
      by_cases h2 : val x.data.toList ≥ 1099511627776
      · rw [if_pos h2, if_pos (by omega)]
      rw [if_neg h2, if_neg (by omega)]
  | false =>
    rw [if_neg (show ¬ (false = true) by simp), if_neg (show ¬ (false = true) by simp)]
    by_cases h32 : (x.size : Int) > 32
    · rw [if_pos h32, if_pos (by omega)]
    · rw [if_neg h32, if_neg (by omega)]

theorem refLex_l1 (x : ByteArray) (hs : x.size ≤ 4000) (acc : List S30) (d : Nat) : ∀ (k i : Nat), x.size - i = d → i ≤ x.size → d + 1 < k →
    ∃ k', k ≤ k' + 1 + ((x.data.toList.drop i).takeWhile (· != 10)).length ∧ eddywheelref05_Lex.l1 k x acc (i : Int) = eddywheelref05_Lex.l0 k' x acc ((i + ((x.data.toList.drop i).takeWhile (· != 10)).length : Nat) : Int) := by
  induction d with
  | zero =>
    intro k i hd hi hk
    obtain ⟨k, rfl⟩ : ∃ m, k = m + 1 := ⟨k - 1, by omega⟩
    refine ⟨k, by omega, ?_⟩
    simp only [eddywheelref05_Lex.l1]
    rw [if_neg (by omega), List.drop_of_length_le (by simp; omega)]
    rfl
  | succ d ih =>
    intro k i hd hi hk
    obtain ⟨k, rfl⟩ : ∃ m, k = m + 1 := ⟨k - 1, by omega⟩
    obtain ⟨c, r, e1, e2, e3⟩ := drop_cons_of x i (by omega)
    simp only [eddywheelref05_Lex.l1]
    rw [if_pos (by omega), if_pos (by omega), e2, e1]
    by_cases hc : c = 10
    · subst hc
      refine ⟨k, by omega, ?_⟩
      rw [if_pos (by decide)]
      rfl
    · rw [if_neg (by intro h; exact hc ((toNat_eq c 10 (by omega)).1 h)), wrap_small _ (by omega) (by omega)]
      obtain ⟨k', h1, h2⟩ := ih k (i + 1) (by omega) (by omega) (by omega)
      have hb : (c != 10) = true := by simpa using hc
      rw [e3] at h1 h2
      refine ⟨k', ?_, ?_⟩
      · simp only [List.takeWhile, hb, List.length_cons]; omega
      · have e : (i : Int) + 1 = ((i + 1 : Nat) : Int) := by omega
        rw [e, h2]
        simp only [List.takeWhile, hb, List.length_cons]
        congr 1
        omega

theorem oneR_err (w : List UInt8) (p : Int) : (oneR w p).2.2.2.2 = 0 ↔ ∃ t, one w p = .ok t := by
  unfold oneR
  cases h : one w p with
  | error e => simp [one_err w p e h]
  | ok t => simp
theorem mark_none (c : UInt8) (h1 : c ≠ 40) (h2 : c ≠ 41) (h3 : c ≠ 39) : eddywheelref05_mark.f (c.toNat : Int) = some 0 := by
  unfold eddywheelref05_mark.f
  have n1 : ¬ ((c.toNat : Int) = 40) := fun h => h1 ((toNat_eq c 40 (by omega)).1 h)
  have n2 : ¬ ((c.toNat : Int) = 41) := fun h => h2 ((toNat_eq c 41 (by omega)).1 h)
  have n3 : ¬ ((c.toNat : Int) = 39) := fun h => h3 ((toNat_eq c 39 (by omega)).1 h)
  rw [if_neg n1, if_neg n2, if_neg n3]
theorem mark_40 : eddywheelref05_mark.f ((40 : UInt8).toNat : Int) = some 1 := rfl
theorem mark_41 : eddywheelref05_mark.f ((41 : UInt8).toNat : Int) = some 2 := rfl
theorem mark_39 : eddywheelref05_mark.f ((39 : UInt8).toNat : Int) = some 3 := rfl
theorem beq_no {c d : UInt8} (h : c ≠ d) : ¬ ((c == d) = true) := by simpa using h

theorem refLex_l0 (x : ByteArray) (hs : x.size ≤ 4000) (d : Nat) : ∀ (k p : Nat) (acc : List S30), x.size - p = d → p ≤ x.size → 4 * d + 60 < k → acc.length ≤ p →
    eddywheelref05_Lex.l0 k x acc (p : Int) = some (fin acc (lexA (x.data.toList.drop p) p)) := by
  induction d using Nat.strongRecOn with
  | _ d ih =>
  intro k p acc hd hp hk ha
  obtain ⟨k, rfl⟩ : ∃ m, k = m + 1 := ⟨k - 1, by omega⟩
  simp only [eddywheelref05_Lex.l0]
  by_cases hlt : p < x.size
  · obtain ⟨c, r, e1, e2, e3⟩ := drop_cons_of x p hlt
    have hlen : r.length = x.size - (p + 1) := by rw [← e3]; simp
    obtain ⟨k, rfl⟩ : ∃ m, k = m + 1 := ⟨k - 1, by omega⟩
    have hj : (if (bt x p) = 32 then eddywheelref05_Lex.j1 (k + 1) x acc p (bt x p) true else if (bt x p) = 9 then eddywheelref05_Lex.j1 (k + 1) x acc p (bt x p) true else eddywheelref05_Lex.j1 (k + 1) x acc p (bt x p) ((bt x p) == 10)) = eddywheelref05_Lex.j1 (k + 1) x acc p (c.toNat : Int) (isBlank c) := by
      rw [e2]
      unfold isBlank
      by_cases h1 : c = 32
      · subst h1; rfl
      by_cases h2 : c = 9
      · subst h2; rfl
      have n1 : ¬ ((c.toNat : Int) = 32) := fun h => h1 ((toNat_eq c 32 (by omega)).1 h)
      have n2 : ¬ ((c.toNat : Int) = 9) := fun h => h2 ((toNat_eq c 9 (by omega)).1 h)
      rw [if_neg n1, if_neg n2]
      congr 1
      have : ((c.toNat : Int) == 10) = (c == 10) := by
        rw [Bool.eq_iff_iff, beq_iff_eq, beq_iff_eq]
        exact toNat_eq c 10 (by omega)
      rw [this]; simp [h1, h2]
    rw [if_pos (by omega), if_pos (by omega), hj, e1, lexA_cons]
    have hpp : (p : Int) + 1 = ((p + 1 : Nat) : Int) := by omega
    have next : ∀ (k' q : Nat) (t : Tok) (z : List UInt8), 4 * (x.size - q) + 60 < k' → p < q → q ≤ x.size → x.data.toList.drop q = z → eddywheelref05_Lex.l0 k' x (acc ++ [toS t]) (q : Int) = some (fin acc (cons t (lexA z q))) := by
      intro k' q t z h1 h2 h3 h4
      rw [fin_cons, ← h4]
      exact ih (x.size - q) (by omega) k' q _ rfl h3 h1 (by simp; omega)
    simp only [eddywheelref05_Lex.j1]
    cases hb : isBlank c with
    | true =>
      rw [if_pos rfl, if_pos rfl, wrap_small _ (by omega) (by omega), hpp, ih (x.size - (p + 1)) (by omega) k (p + 1) acc rfl (by omega) (by omega) (by omega), e3]
    | false =>
      rw [if_neg (show ¬ (false = true) by simp), if_neg (show ¬ (false = true) by simp)]
      by_cases h59 : c = 59
      · subst h59
        rw [if_pos (by decide), if_pos (by decide)]
        obtain ⟨k', h1, h2⟩ := refLex_l1 x hs acc _ k p rfl (by omega) (by omega)
        have htw : (x.data.toList.drop p).takeWhile (· != 10) = 59 :: r.takeWhile (· != 10) := by rw [e1]; rfl
        have hle := take_drop_len (· != 10) r
        rw [htw] at h1 h2
        simp only [List.length_cons] at h1 h2
        rw [h2, ih (x.size - (p + ((r.takeWhile (· != 10)).length + 1))) (by omega) k' _ acc rfl (by omega) (by omega) (by omega)]
        have hdr : x.data.toList.drop (p + ((r.takeWhile (· != 10)).length + 1)) = r.dropWhile (· != 10) := by
          rw [← drop_takeWhile, ← e3, List.drop_drop]
          congr 1
          rw [e3]; omega
        rw [hdr]
        congr 3
        omega
      have n59 : ¬ ((c.toNat : Int) = 59) := fun h => h59 ((toNat_eq c 59 (by omega)).1 h)
      rw [if_neg n59, if_neg (beq_no h59)]
      have hal : acc.length < 3518437208883 := by omega
      by_cases h40 : c = 40
      · subst h40
        rw [mark_40, Option.bind_some, if_neg (show ¬ ((1 : Int) = 0) by decide), if_pos hal, wrap_small _ (by omega) (by omega), if_pos (show ((40 : UInt8) == 40) = true by rfl), hpp]
        exact next k (p + 1) ⟨1, p, 0, []⟩ r (by omega) (by omega) (by omega) e3
      by_cases h41 : c = 41
      · subst h41
        rw [mark_41, Option.bind_some, if_neg (show ¬ ((2 : Int) = 0) by decide), if_pos hal, wrap_small _ (by omega) (by omega), if_neg (beq_no h40), if_pos (show ((41 : UInt8) == 41) = true by rfl), hpp]
        exact next k (p + 1) ⟨2, p, 0, []⟩ r (by omega) (by omega) (by omega) e3
      by_cases h39 : c = 39
      · subst h39
        rw [mark_39, Option.bind_some, if_neg (show ¬ ((3 : Int) = 0) by decide), if_pos hal, wrap_small _ (by omega) (by omega), if_neg (beq_no h40), if_neg (beq_no h41), if_pos (show ((39 : UInt8) == 39) = true by rfl), hpp]
        exact next k (p + 1) ⟨3, p, 0, []⟩ r (by omega) (by omega) (by omega) e3
      rw [mark_none c h40 h41 h39, Option.bind_some, if_pos (rfl : (0 : Int) = 0), if_neg (beq_no h40), if_neg (beq_no h41), if_neg (beq_no h39)]
      by_cases h35 : c = 35
      · have n35 : (c.toNat : Int) = 35 := (toNat_eq c 35 (by omega)).2 h35
        have b35 : (c == 35) = true := by simpa using h35
        rw [if_pos n35, if_pos b35, wrap_small _ (by omega) (by omega), hpp, ref_word_pr x hs k (p + 1) (by omega) (by omega), Option.bind_some]
        have hwd := word_data x (p + 1)
        generalize x.extract (p + 1) (p + 1 + wlen (x.data.toList.drop (p + 1))) = wd at hwd
        rw [e3] at hwd
        obtain ⟨k, rfl⟩ : ∃ m, k = m + 1 := ⟨k - 1, by omega⟩
        have hj3 : (if wd.toList = ([116] : List UInt8) then eddywheelref05_Lex.j3 (k + 1) x acc p wd false else eddywheelref05_Lex.j3 (k + 1) x acc p wd (wd.toList != ([102] : List UInt8))) = eddywheelref05_Lex.j3 (k + 1) x acc p wd (!(decide (wd.toList = [116]) || decide (wd.toList = [102]))) := by
          by_cases h1 : wd.toList = [116]
          · rw [if_pos h1]; simp [h1]
          · rw [if_neg h1]
            congr 1
            by_cases h2 : wd.toList = [102]
            · simp [h2]
            · simp [h1, h2]
        rw [hj3]
        simp only [eddywheelref05_Lex.j3]
        rw [Lib.toList_data, hwd]
        have two : ∀ d : UInt8, r.takeWhile isLet = [d] → p + 2 ≤ x.size ∧ x.data.toList.drop (p + 2) = r.tail := by
          intro d hd
          cases r with
          | nil => simp at hd
          | cons e z =>
            simp only [List.length_cons] at hlen
            refine ⟨by omega, ?_⟩
            have := congrArg (List.drop 1) e3
            rw [List.drop_drop] at this
            simpa using this
        have hp2 : (p : Int) + 2 = ((p + 2 : Nat) : Int) := by omega
        by_cases h1 : r.takeWhile isLet = [116]
        · obtain ⟨t1, t2⟩ := two _ h1
          rw [if_neg (by simp [h1]), if_pos h1, if_pos h1, if_pos hal, wrap_small _ (by omega) (by omega), hp2]
          exact next k (p + 2) ⟨5, p, 1, []⟩ r.tail (by omega) (by omega) t1 t2
        · by_cases h2 : r.takeWhile isLet = [102]
          · obtain ⟨t1, t2⟩ := two _ h2
            rw [if_neg (by simp [h2]), if_neg h1, if_neg h1, if_pos h2, if_pos hal, wrap_small _ (by omega) (by omega), hp2]
            exact next k (p + 2) ⟨5, p, 0, []⟩ r.tail (by omega) (by omega) t1 t2
          · rw [if_pos (by simp [h1, h2]), if_neg h1, if_neg h2]
            rfl
      · have n35 : ¬ ((c.toNat : Int) = 35) := fun h => h35 ((toNat_eq c 35 (by omega)).1 h)
        rw [if_neg n35, if_neg (beq_no h35), ref_letter_pr, Option.bind_some]
        cases hl : isLet c with
        | false =>
          rw [if_neg (show ¬ (false = true) by simp), if_neg (show ¬ (false = true) by simp)]
          rfl
        | true =>
          rw [if_pos (rfl : true = true), if_pos (rfl : true = true), ref_word_pr x hs k p (by omega) (by omega), Option.bind_some]
          have hwd := word_data x p
          generalize x.extract p (p + wlen (x.data.toList.drop p)) = wd at hwd
          have htw : (x.data.toList.drop p).takeWhile isLet = c :: r.takeWhile isLet := by rw [e1]; simp [List.takeWhile, hl]
          rw [htw] at hwd
          have hsz : wd.size = (r.takeWhile isLet).length + 1 := by rw [Lib.size_eq, hwd]; rfl
          have hle := take_drop_len isLet r
          rw [one_pr wd (by omega) (by omega) k (by omega), Option.bind_some, hwd]
          unfold oneR
          cases ho : one (c :: r.takeWhile isLet) p with
          | error e =>
            simp only []
            rw [if_neg (one_err _ _ _ ho)]
            rfl
          | ok t =>
            simp only []
            rw [if_pos trivial, if_pos hal, hsz, wrap_small _ (by omega) (by omega)]
            have hq : (p : Int) + (((r.takeWhile isLet).length + 1 : Nat) : Int) = ((p + 1 + (r.takeWhile isLet).length : Nat) : Int) := by omega
            rw [hq]
            have hdr : x.data.toList.drop (p + 1 + (r.takeWhile isLet).length) = r.dropWhile isLet := by
              rw [← drop_takeWhile, ← e3, List.drop_drop]
            have := next k (p + 1 + (r.takeWhile isLet).length) t _ (by omega) (by omega) (by omega) hdr
            have hq2 : (p : Int) + 1 + ((r.takeWhile isLet).length : Nat) = ((p + 1 + (r.takeWhile isLet).length : Nat) : Int) := by omega
            rw [hq2]
            exact this
  · rw [if_neg (by omega)]
    have : x.data.toList.drop p = [] := List.drop_of_length_le (by simp; omega)
    rw [this, lexA_nil]
    simp [fin]
theorem refLex_pr (x : ByteArray) : eddywheelref05_Lex.f 16100 x = some (lexR x) := by
  unfold eddywheelref05_Lex.f lexR
  by_cases h : x.size > 4000
  · rw [if_pos (by omega), if_pos h]
  · rw [if_neg (by omega), if_neg h]
    exact refLex_l0 x (by omega) _ 16100 0 [] rfl (by omega) (by omega) (by simp)
end Go.Proofs.YthempkdgmobocaaDoorM
