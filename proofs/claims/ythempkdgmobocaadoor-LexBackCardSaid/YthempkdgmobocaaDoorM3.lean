import Derived.Test.YthempkdgmobocaaDoorM2
namespace Go.Proofs.YthempkdgmobocaaDoorEd
/-! ### A number's digits -/
def digF : Nat → Nat → List UInt8
  | 0, _ => []
  | f + 1, n => if n > 9 then digF f (n / 10) ++ [(48 + n % 10).toUInt8] else [(48 + n).toUInt8]
def natDig (n : Nat) : List UInt8 := digF (n + 1) n
def digits (n : Int) : List UInt8 := if n < 0 then 45 :: natDig (-n).toNat else natDig n.toNat

theorem digF_more (n : Nat) : ∀ f g, n < f → n < g → digF f n = digF g n := by
  induction n using Nat.strongRecOn with
  | _ n ih =>
  intro f g hf hg
  obtain ⟨f, rfl⟩ : ∃ m, f = m + 1 := ⟨f - 1, by omega⟩
  obtain ⟨g, rfl⟩ : ∃ m, g = m + 1 := ⟨g - 1, by omega⟩
  simp only [digF]
  split
  · rw [ih (n / 10) (by omega) f g (by omega) (by omega)]
  · rfl
theorem natDig_eq (n : Nat) : natDig n = if n > 9 then natDig (n / 10) ++ [(48 + n % 10).toUInt8] else [(48 + n).toUInt8] := by
  show digF (n + 1) n = _
  simp only [digF]
  split
  · unfold natDig; rw [digF_more (n / 10) n (n / 10 + 1) (by omega) (by omega)]
  · rfl
theorem dig_byte (d : Nat) (h : d ≤ 9) : isDig (48 + d).toUInt8 = true ∧ ((48 + d).toUInt8.toNat : Int) - 48 = d := by
  have : d = 0 ∨ d = 1 ∨ d = 2 ∨ d = 3 ∨ d = 4 ∨ d = 5 ∨ d = 6 ∨ d = 7 ∨ d = 8 ∨ d = 9 := by omega
  rcases this with rfl | rfl | rfl | rfl | rfl | rfl | rfl | rfl | rfl | rfl <;> decide
theorem natDig_all (n : Nat) : (∀ c ∈ natDig n, isDig c = true) ∧ natDig n ≠ [] := by
  induction n using Nat.strongRecOn with
  | _ n ih =>
  rw [natDig_eq]
  split
  · have h := ih (n / 10) (by omega)
    refine ⟨fun c hc => ?_, by simp⟩
    rcases List.mem_append.1 hc with hc | hc
    · exact h.1 c hc
    · rw [List.mem_singleton] at hc; subst hc; exact (dig_byte (n % 10) (by omega)).1
  · refine ⟨fun c hc => ?_, by simp⟩
    rw [List.mem_singleton] at hc; subst hc; exact (dig_byte n (by omega)).1
theorem val0_snoc (w : List UInt8) (c : UInt8) : val0 (w ++ [c]) = val0 w * 10 + ((c.toNat : Int) - 48) := by
  unfold val0; rw [List.foldl_append]; rfl
theorem val0_natDig (n : Nat) : val0 (natDig n) = n := by
  induction n using Nat.strongRecOn with
  | _ n ih =>
  rw [natDig_eq]
  split
  · rw [val0_snoc, ih (n / 10) (by omega), (dig_byte (n % 10) (by omega)).2]; omega
  · have := (dig_byte n (by omega)).2
    show 0 * 10 + (((48 + n).toUInt8.toNat : Int) - 48) = n
    omega
theorem natDig_len (k : Nat) : ∀ n, n < 10 ^ (k + 1) → (natDig n).length ≤ k + 1 := by
  induction k with
  | zero => intro n hn; rw [natDig_eq, if_neg (by omega)]; simp
  | succ k ih =>
    intro n hn
    rw [natDig_eq]
    split
    · have := ih (n / 10) (by rw [Nat.pow_succ] at hn; omega)
      simp; omega
    · simp

theorem isDig_isLet (c : UInt8) (h : isDig c = true) : isLet c = true := by simp [isLet, h]
theorem isDig_ne (c : UInt8) (h : isDig c = true) : c ≠ 45 := by rintro rfl; revert h; decide
theorem isNum_digs (w : List UInt8) (h : ∀ c ∈ w, isDig c = true) (hw : w ≠ []) : isNum w = true ∧ val w = val0 w := by
  cases w with
  | nil => exact absurd rfl hw
  | cons c r =>
    have hc := isDig_ne c (h c (List.mem_cons_self ..))
    unfold isNum val
    split
    · rename_i heq; cases heq; exact absurd rfl hc
    · exact ⟨by simp; exact ⟨h c (List.mem_cons_self ..), fun y hy => h y (List.mem_cons_of_mem _ hy)⟩, rfl⟩
theorem isNum_neg (w : List UInt8) (h : ∀ c ∈ w, isDig c = true) (hw : w ≠ []) : isNum (45 :: w) = true ∧ val (45 :: w) = - val0 w := by
  refine ⟨?_, rfl⟩
  show (!w.isEmpty && w.all isDig) = true
  cases w with
  | nil => exact absurd rfl hw
  | cons c r => simpa using h
theorem digits_num (n : Int) : isNum (digits n) = true ∧ val (digits n) = n ∧ (∀ c ∈ digits n, isLet c = true) ∧ digits n ≠ [] := by
  unfold digits
  split
  · have h := natDig_all (-n).toNat
    have h2 := isNum_neg _ h.1 h.2
    refine ⟨h2.1, ?_, ?_, by simp⟩
    · rw [h2.2, val0_natDig]; omega
    · intro c hc
      rcases List.mem_cons.1 hc with rfl | hc
      · decide
      · exact isDig_isLet c (h.1 c hc)
  · have h := natDig_all n.toNat
    have h2 := isNum_digs _ h.1 h.2
    refine ⟨h2.1, ?_, fun c hc => isDig_isLet c (h.1 c hc), h.2⟩
    rw [h2.2, val0_natDig]; omega
theorem digits_len (n : Int) (h0 : -1000000000000 < n) (h1 : n < 1099511627776) : (digits n).length ≤ 13 := by
  unfold digits
  split
  · have := natDig_len 11 (-n).toNat (by omega)
    simp; omega
  · have := natDig_len 12 n.toNat (by omega)
    omega

/-! ### A token as text -/
def text (t : Tok) : List UInt8 :=
  if t.kind = 1 then [40] else if t.kind = 2 then [41] else if t.kind = 3 then [39]
  else if t.kind = 4 then digits t.n
  else if t.kind = 5 then (if t.n = 1 then [35, 116] else [35, 102])
  else t.s
/-- what a token of a text is. -/
def Good (t : Tok) : Prop :=
  ((t.kind = 1 ∨ t.kind = 2 ∨ t.kind = 3) ∧ t.n = 0 ∧ t.s = []) ∨
  (t.kind = 4 ∧ -1000000000000 < t.n ∧ t.n < 1099511627776 ∧ t.s = []) ∨
  (t.kind = 5 ∧ (t.n = 0 ∨ t.n = 1) ∧ t.s = []) ∨
  (t.kind = 6 ∧ t.n = 0 ∧ t.s ≠ [] ∧ t.s.length ≤ 32 ∧ isNum t.s = false ∧ ∀ c ∈ t.s, isLet c = true)

theorem val0_bd (w : List UInt8) (h : ∀ c ∈ w, isDig c = true) : 0 ≤ val0 w ∧ val0 w < 10 ^ w.length := by
  suffices ∀ (w : List UInt8), (∀ c ∈ w, isDig c = true) → 0 ≤ val0 w.reverse ∧ val0 w.reverse < 10 ^ w.length by
    have := this w.reverse (by simpa using h)
    simpa using this
  intro w
  induction w with
  | nil => intro _; exact ⟨Int.le_refl _, by decide⟩
  | cons c r ih =>
    intro h
    have ih := ih fun y hy => h y (List.mem_cons_of_mem _ hy)
    have hc := h c (List.mem_cons_self ..)
    have hc2 : 48 ≤ c.toNat ∧ c.toNat ≤ 57 := by
      simp only [isDig, Bool.and_eq_true, decide_eq_true_eq, UInt8.le_iff_toNat_le] at hc
      exact hc
    rw [List.reverse_cons, val0_snoc, List.length_cons, Int.pow_succ]
    omega
theorem isNum_cases (w : List UInt8) (h : isNum w = true) : (∃ r, w = 45 :: r ∧ r ≠ [] ∧ ∀ c ∈ r, isDig c = true) ∨ (w ≠ [] ∧ ∀ c ∈ w, isDig c = true) := by
  unfold isNum at h
  split at h
  · rename_i r
    refine .inl ⟨r, rfl, ?_⟩
    simpa using h
  · exact .inr (by simpa using h)
theorem one_good (w : List UInt8) (p : Int) (t : Tok) (hw : w ≠ []) (hl : ∀ c ∈ w, isLet c = true) (h : one w p = .ok t) :
    Good t ∧ t.pos = p ∧ (t.kind = 4 ∧ isNum w = true ∨ t.kind = 6 ∧ text t = w) := by
  unfold one at h
  split at h
  · rename_i hn
    split at h
    · cases h
    · rename_i hb
      cases h
      simp only [not_or] at hb
      refine ⟨.inr (.inl ⟨rfl, ?_, by show val w < _; omega, rfl⟩), rfl, .inl ⟨rfl, hn⟩⟩
      show -1000000000000 < val w
      rcases isNum_cases w hn with ⟨r, rfl, hr, hd⟩ | ⟨hw, hd⟩
      · have b := val0_bd r hd
        have e : val (45 :: r) = - val0 r := rfl
        have hlen : r.length ≤ 12 := by have := hb.1; simp at this; omega
        have : (10 : Int) ^ r.length ≤ 10 ^ 12 := by exact_mod_cast Nat.pow_le_pow_right (by omega) hlen
        rw [e]
        omega
      · rw [(isNum_digs w hd hw).2]
        have b := val0_bd w hd
        omega
  · rename_i hn
    split at h
    · cases h
    · rename_i hb
      cases h
      exact ⟨.inr (.inr (.inr ⟨rfl, rfl, hw, by simpa using hb, by simpa using hn, hl⟩)), rfl, .inr ⟨rfl, rfl⟩⟩

theorem isLet_not (c : UInt8) (h : isLet c = true) : isBlank c = false ∧ c ≠ 59 ∧ c ≠ 40 ∧ c ≠ 41 ∧ c ≠ 39 ∧ c ≠ 35 := by
  have key : ∀ d : UInt8, isLet d = false → c ≠ d := by rintro d hd rfl; rw [h] at hd; cases hd
  refine ⟨?_, key _ (by decide), key _ (by decide), key _ (by decide), key _ (by decide), key _ (by decide)⟩
  unfold isBlank
  simp [key 32 (by decide), key 9 (by decide), key 10 (by decide)]

theorem lexA_word (w s : List UInt8) (p : Int) (hw : w ≠ []) (hl : ∀ c ∈ w, isLet c = true) (hs : ∀ c r, s = c :: r → isLet c = false) :
    lexA (w ++ s) p = match one w p with | .error e => .error (p, e) | .ok t => cons t (lexA s (p + w.length)) := by
  cases w with
  | nil => exact absurd rfl hw
  | cons c r =>
    have hc := hl c (List.mem_cons_self ..)
    obtain ⟨n1, n2, n3, n4, n5, n6⟩ := isLet_not c hc
    have hr : ∀ y ∈ r, isLet y = true := fun y hy => hl y (List.mem_cons_of_mem _ hy)
    have e1 : (r ++ s).takeWhile isLet = r := by
      cases s with
      | nil => rw [List.append_nil, takeWhile_all _ _ hr]
      | cons d s => rw [takeWhile_stop _ _ _ _ (hs d s rfl), takeWhile_all _ _ hr]
    have e2 : (r ++ s).dropWhile isLet = s := by
      cases s with
      | nil => rw [List.append_nil, dropWhile_all _ _ hr]
      | cons d s => rw [dropWhile_stop _ _ _ _ (hs d s rfl), dropWhile_all _ _ hr]; rfl
    rw [List.cons_append, lexA_cons, if_neg (by simp [n1]), if_neg (by simp [n2]), if_neg (by simp [n3]), if_neg (by simp [n4]), if_neg (by simp [n5]), if_neg (by simp [n6]), if_pos hc, e1, e2]
    cases one (c :: r) p with
    | error e => rfl
    | ok t =>
      simp only [List.length_cons]
      congr 2
      omega

/-- a token's text, and a blank: the token again. -/
theorem lexA_text (t : Tok) (h : Good t) (s : List UInt8) (p : Int) :
    lexA (text t ++ 32 :: s) p = cons { t with pos := p } (lexA s (p + (text t).length + 1)) := by
  have bl : ∀ q, lexA (32 :: s) q = lexA s (q + 1) := fun q => lexA_blank 32 s q (by decide)
  obtain ⟨kind, pos, n, ts⟩ := t
  rcases h with ⟨hk, hn, hs⟩ | ⟨hk, h0, h1, hs⟩ | ⟨hk, hn, hs⟩ | ⟨hk, hn, h0, h1, h2, h3⟩
  · simp only at hk hn hs
    subst hn; subst hs
    rcases hk with rfl | rfl | rfl
    · show lexA (40 :: 32 :: s) p = _
      rw [lexA_cons, if_neg (by decide), if_neg (by decide), if_pos (by decide), bl]; rfl
    · show lexA (41 :: 32 :: s) p = _
      rw [lexA_cons, if_neg (by decide), if_neg (by decide), if_neg (by decide), if_pos (by decide), bl]; rfl
    · show lexA (39 :: 32 :: s) p = _
      rw [lexA_cons, if_neg (by decide), if_neg (by decide), if_neg (by decide), if_neg (by decide), if_pos (by decide), bl]; rfl
  · simp only at hk h0 h1 hs
    subst hk; subst hs
    show lexA (digits n ++ 32 :: s) p = cons _ (lexA s (p + (digits n).length + 1))
    obtain ⟨a, b, c, d⟩ := digits_num n
    rw [lexA_word _ _ _ d c (by rintro x r hx; cases hx; decide)]
    have : one (digits n) p = .ok ⟨4, p, n, []⟩ := by
      unfold one
      have := digits_len n h0 h1
      rw [if_pos a, b, if_neg (by omega)]
    rw [this]; simp only [bl]
  · simp only at hk hn hs
    subst hk; subst hs
    rcases hn with rfl | rfl
    · show lexA (35 :: 102 :: 32 :: s) p = _
      rw [lexA_cons, if_neg (by decide), if_neg (by decide), if_neg (by decide), if_neg (by decide), if_neg (by decide), if_pos (by decide)]
      have : (102 :: 32 :: s).takeWhile isLet = [102] := takeWhile_stop isLet [102] 32 s (by decide)
      rw [this, if_neg (by decide), if_pos rfl, List.tail_cons, bl]
      rfl
    · show lexA (35 :: 116 :: 32 :: s) p = _
      rw [lexA_cons, if_neg (by decide), if_neg (by decide), if_neg (by decide), if_neg (by decide), if_neg (by decide), if_pos (by decide)]
      have : (116 :: 32 :: s).takeWhile isLet = [116] := takeWhile_stop isLet [116] 32 s (by decide)
      rw [this, if_pos rfl, List.tail_cons, bl]
      rfl
  · simp only at hk hn h0 h1 h2 h3
    subst hk; subst hn
    show lexA (ts ++ 32 :: s) p = cons _ (lexA s (p + ts.length + 1))
    rw [lexA_word _ _ _ h0 h3 (by rintro x r hx; cases hx; decide)]
    have : one ts p = .ok ⟨6, p, 0, ts⟩ := by
      unfold one
      rw [if_neg (by simp [h2]), if_neg (by omega)]
    rw [this]; simp only [bl]

/-! ### What the tokens of a text are -/
/-- a token in a text. -/
def Stands (s : List UInt8) (p : Int) (t : Tok) : Prop :=
  Good t ∧ ∃ a w b, s = a ++ w ++ b ∧ t.pos = p + a.length ∧ w ≠ [] ∧ (t.kind = 4 ∧ isNum w = true ∨ t.kind ≠ 4 ∧ w = text t)
theorem Stands.later {z : List UInt8} {k : Int} {t : Tok} (h : Stands z k t) (u : List UInt8) (p : Int) (hk : k = p + u.length) : Stands (u ++ z) p t := by
  obtain ⟨g, a, w, b, hz, hp, hw, ht⟩ := h
  refine ⟨g, u ++ a, w, b, by rw [hz]; simp, ?_, hw, ht⟩
  rw [hp, hk]; simp; omega

theorem lexA_stands (s : List UInt8) : ∀ (p : Int) (l : List Tok), lexA s p = .ok l → (∀ t ∈ l, Stands s p t) ∧ l.Pairwise (fun t u => t.pos < u.pos) := by
  induction hn : s.length using Nat.strongRecOn generalizing s with
  | _ n ih =>
  intro p l hl
  subst hn
  cases s with
  | nil => rw [lexA_nil] at hl; cases hl; simp
  | cons c r =>
    have step0 : ∀ (u z : List UInt8) (k : Int), c :: r = u ++ z → u ≠ [] → k = p + u.length → lexA z k = .ok l → (∀ t ∈ l, Stands (c :: r) p t) ∧ l.Pairwise (fun t u => t.pos < u.pos) := by
      intro u z k e hu hk h
      have hz : z.length < (c :: r).length := by rw [e]; have := List.length_pos_iff.2 hu; simp; omega
      have h := ih z.length hz z rfl k l h
      exact ⟨fun t ht => by rw [e]; exact (h.1 t ht).later u p hk, h.2⟩
    have step : ∀ (u z : List UInt8) (k : Int) (t : Tok), c :: r = u ++ z → u ≠ [] → k = p + u.length → Stands (c :: r) p t → t.pos = p → cons t (lexA z k) = .ok l → (∀ t ∈ l, Stands (c :: r) p t) ∧ l.Pairwise (fun t u => t.pos < u.pos) := by
      intro u z k t e hu hk ht hp h
      have hz : z.length < (c :: r).length := by rw [e]; have := List.length_pos_iff.2 hu; simp; omega
      cases hx : lexA z k with
      | error e => rw [hx] at h; cases h
      | ok m =>
        rw [hx] at h; cases h
        have g := ih z.length hz z rfl k m hx
        have gp := lexA_pos z k m hx
        constructor
        · intro v hv
          rcases List.mem_cons.1 hv with rfl | hv
          · exact ht
          · rw [e]; exact (g.1 v hv).later u p hk
        · rw [List.pairwise_cons]
          refine ⟨fun v hv => ?_, g.2⟩
          have := gp v hv
          have := List.length_pos_iff.2 hu
          omega
    have mark : ∀ (k : Int) (x : List UInt8), (k = 1 ∨ k = 2 ∨ k = 3) → text ⟨k, p, 0, []⟩ = [c] → Stands (c :: r) p ⟨k, p, 0, []⟩ := by
      intro k x hk ht
      exact ⟨.inl ⟨hk, rfl, rfl⟩, [], [c], r, rfl, by simp, by simp, .inr ⟨by show k ≠ 4; omega, ht.symm⟩⟩
    rw [lexA_cons] at hl
    split at hl
    · exact step0 [c] r _ rfl (by simp) (by simp) hl
    split at hl
    · exact step0 (c :: r.takeWhile (· != 10)) _ _ (by rw [List.cons_append, takeWhile_split]) (by simp) (by simp; omega) hl
    split at hl
    · rename_i h; have h : c = 40 := by simpa using h
      subst h
      exact step [40] r _ _ rfl (by simp) (by simp) (mark 1 [] (by simp) rfl) rfl hl
    split at hl
    · rename_i h; have h : c = 41 := by simpa using h
      subst h
      exact step [41] r _ _ rfl (by simp) (by simp) (mark 2 [] (by simp) rfl) rfl hl
    split at hl
    · rename_i h; have h : c = 39 := by simpa using h
      subst h
      exact step [39] r _ _ rfl (by simp) (by simp) (mark 3 [] (by simp) rfl) rfl hl
    split at hl
    · rename_i h; have h : c = 35 := by simpa using h
      subst h
      have two : ∀ d : UInt8, r.takeWhile isLet = [d] → ∃ z, r = d :: z := by
        intro d hd
        cases r with
        | nil => simp at hd
        | cons e z =>
          simp only [List.takeWhile] at hd
          split at hd
          · exact ⟨z, by rw [(List.cons.inj hd).1]⟩
          · cases hd
      split at hl
      · rename_i h
        obtain ⟨z, rfl⟩ := two _ h
        exact step [35, 116] z _ _ rfl (by simp) rfl ⟨.inr (.inr (.inl ⟨rfl, .inr rfl, rfl⟩)), [], [35, 116], z, rfl, by simp, by simp, .inr ⟨by show (5 : Int) ≠ 4; decide, rfl⟩⟩ rfl hl
      split at hl
      · rename_i h
        obtain ⟨z, rfl⟩ := two _ h
        exact step [35, 102] z _ _ rfl (by simp) rfl ⟨.inr (.inr (.inl ⟨rfl, .inl rfl, rfl⟩)), [], [35, 102], z, rfl, by simp, by simp, .inr ⟨by show (5 : Int) ≠ 4; decide, rfl⟩⟩ rfl hl
      · cases hl
    split at hl
    · rename_i hc
      split at hl
      · cases hl
      · rename_i t ht
        have hall : ∀ y ∈ c :: r.takeWhile isLet, isLet y = true := by
          intro y hy
          rcases List.mem_cons.1 hy with rfl | hy
          · exact hc
          · have := List.all_takeWhile (p := isLet) (l := r); exact List.all_eq_true.1 this y hy
        obtain ⟨g, hp, hk⟩ := one_good _ p t (by simp) hall ht
        refine step (c :: r.takeWhile isLet) _ _ t (by rw [List.cons_append, takeWhile_split]) (by simp) (by simp; omega) ⟨g, [], c :: r.takeWhile isLet, r.dropWhile isLet, by simp, by simp [hp], by simp, ?_⟩ hp hl
        rcases hk with ⟨a, b⟩ | ⟨a, b⟩
        · exact .inl ⟨a, b⟩
        · exact .inr ⟨by omega, b.symm⟩
    · cases hl

/-- the text of tokens, a blank behind each. -/
def texts (l : List Tok) : List UInt8 := l.flatMap fun t => text t ++ [32]
/-- tokens with their places in it. -/
def placed : Int → List Tok → List Tok
  | _, [] => []
  | p, t :: l => { t with pos := p } :: placed (p + (text t).length + 1) l
theorem lexA_texts (l : List Tok) (h : ∀ t ∈ l, Good t) : ∀ p, lexA (texts l) p = .ok (placed p l) := by
  induction l with
  | nil => intro p; rfl
  | cons t l ih =>
    intro p
    have e : texts (t :: l) = text t ++ 32 :: texts l := by simp [texts]
    rw [e, lexA_text t (h t (List.mem_cons_self ..)), ih fun u hu => h u (List.mem_cons_of_mem _ hu)]
    rfl
end Go.Proofs.YthempkdgmobocaaDoorEd
