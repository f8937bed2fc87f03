namespace Go.Proofs.YthempkdgmobocaaDoorEd
/-! The plain law of the lexer, over lists of bytes. -/
structure Tok where
  kind : Int
  pos : Int
  n : Int
  s : List UInt8
  deriving DecidableEq, Repr

def isBlank (c : UInt8) : Bool := c == 32 || c == 9 || c == 10
def isDig (c : UInt8) : Bool := 48 ≤ c && c ≤ 57
def isLet (c : UInt8) : Bool :=
  (97 ≤ c && c ≤ 122) || (65 ≤ c && c ≤ 90) || isDig c ||
  c == 33 || c == 36 || c == 37 || c == 38 || c == 42 || c == 43 || c == 45 || c == 47 ||
  c == 58 || c == 60 || c == 61 || c == 62 || c == 63 || c == 94 || c == 95 || c == 126

def isNum (w : List UInt8) : Bool :=
  match w with
  | 45 :: r => !r.isEmpty && r.all isDig
  | w => !w.isEmpty && w.all isDig

def val0 (w : List UInt8) : Int := w.foldl (fun n c => n * 10 + ((c.toNat : Int) - 48)) 0
def val (w : List UInt8) : Int :=
  match w with
  | 45 :: r => - val0 r
  | w => val0 w

abbrev Res := Except (Int × Int) (List Tok)

def one (w : List UInt8) (p : Int) : Except Int Tok :=
  if isNum w then
    if w.length > 13 ∨ val w ≤ -1099511627776 ∨ val w ≥ 1099511627776 then .error 51
    else .ok ⟨4, p, val w, []⟩
  else if w.length > 32 then .error 3
  else .ok ⟨6, p, 0, w⟩

def cons (t : Tok) : Res → Res
  | .ok l => .ok (t :: l)
  | .error e => .error e

def lexF : Nat → List UInt8 → Int → Res
  | 0, _, _ => .ok []
  | _ + 1, [], _ => .ok []
  | f + 1, c :: r, p =>
    if isBlank c then lexF f r (p + 1)
    else if c == 59 then lexF f (r.dropWhile (· != 10)) (p + 1 + (r.takeWhile (· != 10)).length)
    else if c == 40 then cons ⟨1, p, 0, []⟩ (lexF f r (p + 1))
    else if c == 41 then cons ⟨2, p, 0, []⟩ (lexF f r (p + 1))
    else if c == 39 then cons ⟨3, p, 0, []⟩ (lexF f r (p + 1))
    else if c == 35 then
      if r.takeWhile isLet = [116] then cons ⟨5, p, 1, []⟩ (lexF f r.tail (p + 2))
      else if r.takeWhile isLet = [102] then cons ⟨5, p, 0, []⟩ (lexF f r.tail (p + 2))
      else .error (p, 50)
    else if isLet c then
      match one (c :: r.takeWhile isLet) p with
      | .error e => .error (p, e)
      | .ok t => cons t (lexF f (r.dropWhile isLet) (p + 1 + (r.takeWhile isLet).length))
    else .error (p, 50)

theorem lexF_nil (f : Nat) (p : Int) : lexF f [] p = .ok [] := by cases f <;> rfl

theorem dropWhile_le {α} (q : α → Bool) (l : List α) : (l.dropWhile q).length ≤ l.length := by
  induction l with
  | nil => simp
  | cons a l ih => simp only [List.dropWhile]; split <;> simp <;> omega
theorem tail_le {α} (l : List α) : l.tail.length ≤ l.length := by simp

theorem lexF_more (l : List UInt8) : ∀ (f g : Nat) (p : Int), l.length ≤ f → l.length ≤ g → lexF f l p = lexF g l p := by
  induction hn : l.length using Nat.strongRecOn generalizing l with
  | _ n ih =>
  intro f g p hf hg
  cases l with
  | nil => rw [lexF_nil, lexF_nil]
  | cons c r =>
    simp only [List.length_cons] at hn
    obtain ⟨f, rfl⟩ : ∃ m, f = m + 1 := ⟨f - 1, by omega⟩
    obtain ⟨g, rfl⟩ : ∃ m, g = m + 1 := ⟨g - 1, by omega⟩
    have h1 := fun q => ih r.length (by omega) r rfl f g q (by omega) (by omega)
    have h2 := fun q => ih (r.dropWhile (· != 10)).length (by have := dropWhile_le (· != 10) r; omega) _ rfl f g q (by have := dropWhile_le (· != 10) r; omega) (by have := dropWhile_le (· != 10) r; omega)
    have h3 := fun q => ih (r.dropWhile isLet).length (by have := dropWhile_le isLet r; omega) _ rfl f g q (by have := dropWhile_le isLet r; omega) (by have := dropWhile_le isLet r; omega)
    have h4 := fun q => ih r.tail.length (by have := tail_le r; omega) _ rfl f g q (by have := tail_le r; omega) (by have := tail_le r; omega)
    simp only [lexF, h1, h2, h3, h4]

def lexA (l : List UInt8) (p : Int) : Res := lexF l.length l p
theorem lexA_of (l : List UInt8) (f : Nat) (p : Int) (h : l.length ≤ f) : lexF f l p = lexA l p := lexF_more l _ _ _ h (Nat.le_refl _)
theorem lexA_nil (p : Int) : lexA [] p = .ok [] := rfl
theorem lexA_cons (c : UInt8) (r : List UInt8) (p : Int) : lexA (c :: r) p =
    if isBlank c then lexA r (p + 1)
    else if c == 59 then lexA (r.dropWhile (· != 10)) (p + 1 + (r.takeWhile (· != 10)).length)
    else if c == 40 then cons ⟨1, p, 0, []⟩ (lexA r (p + 1))
    else if c == 41 then cons ⟨2, p, 0, []⟩ (lexA r (p + 1))
    else if c == 39 then cons ⟨3, p, 0, []⟩ (lexA r (p + 1))
    else if c == 35 then
      if r.takeWhile isLet = [116] then cons ⟨5, p, 1, []⟩ (lexA r.tail (p + 2))
      else if r.takeWhile isLet = [102] then cons ⟨5, p, 0, []⟩ (lexA r.tail (p + 2))
      else .error (p, 50)
    else if isLet c then
      match one (c :: r.takeWhile isLet) p with
      | .error e => .error (p, e)
      | .ok t => cons t (lexA (r.dropWhile isLet) (p + 1 + (r.takeWhile isLet).length))
    else .error (p, 50) := by
  have h2 := fun q => lexA_of (r.dropWhile (· != 10)) r.length q (dropWhile_le _ r)
  have h3 := fun q => lexA_of (r.dropWhile isLet) r.length q (dropWhile_le _ r)
  have h4 := fun q => lexA_of r.tail r.length q (tail_le r)
  have h1 := fun q => lexA_of r r.length q (Nat.le_refl _)
  show lexF (r.length + 1) (c :: r) p = _
  simp only [lexF, h1, h2, h3, h4]

/-- a text behind another, with a newline between. -/
def then_ (x : Res) (y : Res) : Res :=
  match x with
  | .error e => .error e
  | .ok a => match y with
    | .error e => .error e
    | .ok b => .ok (a ++ b)
theorem then_ok_nil (y : Res) : then_ (.ok []) y = y := by cases y <;> rfl
theorem cons_then (t : Tok) (x y : Res) : then_ (cons t x) y = cons t (then_ x y) := by
  cases x <;> cases y <;> rfl

theorem takeWhile_stop {α} (q : α → Bool) (a : List α) (c : α) (b : List α) (h : q c = false) :
    (a ++ c :: b).takeWhile q = a.takeWhile q := by
  induction a with
  | nil => simp [h]
  | cons x a ih => simp only [List.cons_append, List.takeWhile]; split <;> simp [ih]
theorem dropWhile_stop {α} (q : α → Bool) (a : List α) (c : α) (b : List α) (h : q c = false) :
    (a ++ c :: b).dropWhile q = a.dropWhile q ++ c :: b := by
  induction a with
  | nil => simp [h]
  | cons x a ih => simp only [List.cons_append, List.dropWhile]; split <;> simp [ih]
theorem take_drop_len {α} (q : α → Bool) (a : List α) : (a.takeWhile q).length + (a.dropWhile q).length = a.length := by
  induction a with
  | nil => simp
  | cons x a ih => simp only [List.takeWhile, List.dropWhile]; split <;> simp <;> omega

theorem lexA_join (s t : List UInt8) : ∀ (p : Int), lexA (s ++ 10 :: t) p = then_ (lexA s p) (lexA t (p + s.length + 1)) := by
  induction hn : s.length using Nat.strongRecOn generalizing s with
  | _ n ih =>
  intro p
  subst hn
  cases s with
  | nil =>
    rw [lexA_nil, then_ok_nil, List.nil_append, lexA_cons, if_pos (by decide)]
    simp
  | cons c r =>
    rw [List.cons_append, lexA_cons, lexA_cons c r]
    have h1 : ∀ q, lexA (r ++ 10 :: t) (q + 1) = then_ (lexA r (q + 1)) (lexA t (q + (c :: r).length + 1)) := by
      intro q
      rw [ih r.length (by simp) r rfl]
      simp only [List.length_cons]
      rw [show q + 1 + (r.length : Int) + 1 = q + ((r.length + 1 : Nat) : Int) + 1 by omega]
    have h2 : ∀ (f : UInt8 → Bool) q, lexA (r.dropWhile f ++ 10 :: t) (q + 1 + (r.takeWhile f).length) = then_ (lexA (r.dropWhile f) (q + 1 + (r.takeWhile f).length)) (lexA t (q + (c :: r).length + 1)) := by
      intro f q
      have hl := take_drop_len f r
      rw [ih (r.dropWhile f).length (by simp; omega) _ rfl]
      simp only [List.length_cons]
      rw [show q + 1 + ((r.takeWhile f).length : Int) + ((r.dropWhile f).length : Int) + 1 = q + ((r.length + 1 : Nat) : Int) + 1 by omega]
    have h4 : ∀ q, r ≠ [] → lexA ((r ++ 10 :: t).tail) (q + 2) = then_ (lexA r.tail (q + 2)) (lexA t (q + (c :: r).length + 1)) := by
      intro q hr
      cases r with
      | nil => exact absurd rfl hr
      | cons d r =>
        rw [List.cons_append, List.tail_cons, ih r.length (by simp; omega) r rfl]
        simp only [List.length_cons, List.tail_cons]
        rw [show q + 2 + (r.length : Int) + 1 = q + ((r.length + 1 + 1 : Nat) : Int) + 1 by omega]
    rw [takeWhile_stop (· != 10) r 10 t (by decide), dropWhile_stop (· != 10) r 10 t (by decide), takeWhile_stop isLet r 10 t (by decide), dropWhile_stop isLet r 10 t (by decide), h1 p, h2 isLet p]
    split
    · rfl
    · split
      · exact h2 (· != 10) p
      · split
        · rw [cons_then]
        · split
          · rw [cons_then]
          · split
            · rw [cons_then]
            · split
              · split
                · rename_i h
                  rw [h4 p (by rintro rfl; simp at h), cons_then]
                · split
                  · rename_i h
                    rw [h4 p (by rintro rfl; simp at h), cons_then]
                  · rfl
              · split
                · cases one (c :: r.takeWhile isLet) p with
                  | error e => rfl
                  | ok t => simp only []; rw [cons_then]
                · rfl

/-- a text's tokens, moved. -/
def mv (k : Int) (t : Tok) : Tok := { t with pos := t.pos + k }
def move (k : Int) : Res → Res
  | .ok l => .ok (l.map (mv k))
  | .error (p, e) => .error (p + k, e)
theorem move_cons (k : Int) (t : Tok) (x : Res) : move k (cons t x) = cons (mv k t) (move k x) := by cases x <;> rfl
theorem one_mv (w : List UInt8) (p k : Int) : one w (p + k) = (match one w p with | .error e => .error e | .ok t => .ok (mv k t)) := by
  unfold one
  split
  · split <;> rfl
  · split <;> rfl
theorem lexA_move (s : List UInt8) : ∀ (p k : Int), lexA s (p + k) = move k (lexA s p) := by
  induction hn : s.length using Nat.strongRecOn generalizing s with
  | _ n ih =>
  intro p k
  subst hn
  cases s with
  | nil => rfl
  | cons c r =>
    rw [lexA_cons, lexA_cons]
    have h1 : lexA r (p + k + 1) = move k (lexA r (p + 1)) := by rw [← ih r.length (by simp) r rfl]; congr 1; omega
    have h2 : ∀ f : UInt8 → Bool, lexA (r.dropWhile f) (p + k + 1 + (r.takeWhile f).length) = move k (lexA (r.dropWhile f) (p + 1 + (r.takeWhile f).length)) := by
      intro f
      have hl := take_drop_len f r
      rw [← ih _ (by simp; omega) _ rfl]; congr 1; omega
    have h4 : lexA r.tail (p + k + 2) = move k (lexA r.tail (p + 2)) := by rw [← ih _ (by simp; omega) _ rfl]; congr 1; omega
    rw [h1, h2, h2, h4, one_mv]
    split
    · rfl
    · split
      · rfl
      · split
        · rw [move_cons]; rfl
        · split
          · rw [move_cons]; rfl
          · split
            · rw [move_cons]; rfl
            · split
              · split
                · rw [move_cons]; rfl
                · split
                  · rw [move_cons]; rfl
                  · rfl
              · split
                · cases one (c :: r.takeWhile isLet) p with
                  | error e => rfl
                  | ok t => simp only []; rw [move_cons]
                · rfl
end Go.Proofs.YthempkdgmobocaaDoorEd
