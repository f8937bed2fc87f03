/- The plain law: what lex.Lex computes, by its printed form. -/
import Derived.Test.YthempkdgmobocaaDoorLx
import Derived.Test.YthempkdgmobocaaDoorM3
namespace Go.Proofs.YthempkdgmobocaaDoorM
open Go Go.RowKit Go.Proofs.YthempkdgmobocaaDoorEd Go.Proofs.YthempkdgmobocaaDoorE Go.Proofs.YthempkdgmobocaaDoorX Go.Proofs.YthempkdgmobocaaDoor.L
open Go.Proofs.YthempkdgmobocaaDoorW.PrintWords

/-! ### Blanks and remarks -/
theorem skipF_suffix (f : Nat) (t : List UInt8) : skipF f t <:+ t := by
  induction f generalizing t with
  | zero => exact List.suffix_refl _
  | succ f ih =>
    unfold skipF
    split
    · refine (ih _).trans ((List.dropWhile_suffix _).trans ?_)
      unfold tailNl
      exact (List.drop_suffix _ _).trans (List.dropWhile_suffix _)
    · exact List.suffix_refl _
theorem left_suffix (l : List UInt8) : left l <:+ l := (skipF_suffix _ _).trans (List.dropWhile_suffix _)
theorem left_drop (l : List UInt8) : left l = l.drop (l.length - (left l).length) := List.suffix_iff_eq_drop.1 (left_suffix l)

theorem dropWhile_idem (q : UInt8 → Bool) (l : List UInt8) : (l.dropWhile q).dropWhile q = l.dropWhile q := by
  induction l with
  | nil => rfl
  | cons c r ih =>
    simp only [List.dropWhile]
    cases h : q c with
    | true => simpa using ih
    | false => simp [List.dropWhile, h]
theorem skipF_stop (f : Nat) (t : List UInt8) (h : t.length < f) (hb : t.dropWhile isBlank = t) : (skipF f t).dropWhile isBlank = skipF f t ∧ Lib.hasPrefix (skipF f t) [59] = false := by
  induction f generalizing t with
  | zero => omega
  | succ f ih =>
    unfold skipF
    split
    · rename_i hp
      have h1 := tailNl_lt t hp
      have h2 := dropWhile_le isBlank (tailNl t)
      exact ih _ (by omega) (dropWhile_idem _ _)
    · rename_i hp
      exact ⟨hb, by simpa using hp⟩
theorem left_stop (l : List UInt8) : (left l).dropWhile isBlank = left l ∧ Lib.hasPrefix (left l) [59] = false :=
  skipF_stop _ _ (Nat.lt_succ_of_le (dropWhile_le _ _)) (dropWhile_idem _ _)
theorem left_idem (l : List UInt8) : left (left l) = left l := by
  have h := left_stop l
  generalize left l = t at h
  unfold left
  rw [h.1]
  unfold skipF
  rw [if_neg (by simp [h.2])]

theorem lexA_blanks (l : List UInt8) (p : Int) : lexA l p = lexA (l.dropWhile isBlank) (p + (l.takeWhile isBlank).length) := by
  induction l generalizing p with
  | nil => rfl
  | cons c r ih =>
    cases h : isBlank c with
    | true =>
      rw [lexA_blank c r p h, ih]
      simp only [List.dropWhile, List.takeWhile, h, List.length_cons]
      congr 1; omega
    | false => simp [List.dropWhile, List.takeWhile, h]
theorem hasPrefix_59 (t : List UInt8) (h : Lib.hasPrefix t [59] = true) : ∃ r, t = 59 :: r := by
  cases t with
  | nil => simp [Lib.hasPrefix] at h
  | cons c r =>
    refine ⟨r, ?_⟩
    simp [Lib.hasPrefix, List.isPrefixOf] at h
    rw [h]
theorem skipF_lex (f : Nat) (t : List UInt8) (p : Int) : ∃ q, lexA t p = lexA (skipF f t) q ∧ (skipF f t ≠ [] → q = p + t.length - (skipF f t).length) := by
  induction f generalizing t p with
  | zero => exact ⟨p, rfl, fun _ => by simp [skipF]⟩
  | succ f ih =>
    unfold skipF
    split
    · rename_i hp
      obtain ⟨r, rfl⟩ := hasPrefix_59 t hp
      have hd : tailNl (59 :: r) = (r.dropWhile (· != 10)).drop 1 := by
        unfold tailNl
        rfl
      have e : lexA (59 :: r) p = lexA (r.dropWhile (· != 10)) (p + 1 + (r.takeWhile (· != 10)).length) := by
        rw [lexA_cons, if_neg (by decide), if_pos (by decide)]
      have hl := take_drop_len (· != 10) r
      rw [hd, e]
      cases hx : r.dropWhile (· != 10) with
      | nil =>
        obtain ⟨q, h1, h2⟩ := ih ([] : List UInt8) p
        have hn : skipF f ([] : List UInt8) = [] := List.eq_nil_of_length_eq_zero (by have := skipF_le f []; simp at this ⊢; exact this)
        refine ⟨p, ?_, fun hne => absurd (by simp [hn]) hne⟩
        simp [hn, lexA_nil]
      | cons c z =>
        have hc : c = 10 := by
          have := List.head_dropWhile_not (p := (· != 10)) (l := r) (by rw [hx]; simp)
          simp only [hx, List.head_cons] at this
          simpa using this
        subst hc
        rw [hx] at hl
        simp only [List.drop_succ_cons, List.drop_zero]
        rw [lexA_blank 10 z _ (by decide), lexA_blanks z]
        obtain ⟨q, h1, h2⟩ := ih (z.dropWhile isBlank) (p + 1 + (r.takeWhile (· != 10)).length + 1 + (z.takeWhile isBlank).length)
        refine ⟨q, h1, fun hne => ?_⟩
        rw [h2 hne]
        have := take_drop_len isBlank z
        simp only [List.length_cons] at hl ⊢
        omega
    · exact ⟨p, rfl, fun _ => by omega⟩
theorem left_lex (l : List UInt8) (p : Int) : lexA l p = lexA (left l) (p + l.length - (left l).length) := by
  rw [lexA_blanks l p]
  obtain ⟨q, h1, h2⟩ := skipF_lex (l.length + 1) (l.dropWhile isBlank) (p + (l.takeWhile isBlank).length)
  rw [h1]
  show lexA (left l) q = _
  by_cases hne : left l = []
  · rw [hne]; rfl
  · have := h2 hne
    have hl := take_drop_len isBlank l
    congr 1
    rw [this]
    show _ - ((left l).length : Int) = _
    omega

/-! ### The first token of a text -/
/-- kind, number, name, width, error. -/
def firstL (l : List UInt8) : Int × Int × List UInt8 × Nat × Int :=
  match l with
  | [] => (0, 0, [], 0, 50)
  | c :: r =>
    if c == 40 then (1, 0, [], 1, 0) else if c == 41 then (2, 0, [], 1, 0) else if c == 39 then (3, 0, [], 1, 0)
    else if c == 35 then
      if r.takeWhile isLet = [116] then (5, 1, [], 2, 0) else if r.takeWhile isLet = [102] then (5, 0, [], 2, 0) else (0, 0, [], 0, 50)
    else if isLet c then
      match one (c :: r.takeWhile isLet) 0 with
      | .error e => (0, 0, [], 1 + (r.takeWhile isLet).length, e)
      | .ok t => (t.kind, t.n, t.s, 1 + (r.takeWhile isLet).length, 0)
    else (0, 0, [], 0, 50)
theorem one_err (w : List UInt8) (p : Int) (e : Int) (h : one w p = .error e) : e ≠ 0 := by
  unfold one at h
  split at h <;> split at h <;> cases h <;> decide
theorem drop_takeWhile (q : UInt8 → Bool) (r : List UInt8) : r.drop (r.takeWhile q).length = r.dropWhile q := by
  have h := takeWhile_split q r
  have : (r.takeWhile q ++ r.dropWhile q).drop (r.takeWhile q).length = r.dropWhile q := List.drop_left
  rw [h] at this
  exact this
theorem lexA_first (c : UInt8) (r : List UInt8) (p : Int) (hb : isBlank c = false) (hs : c ≠ 59) :
    lexA (c :: r) p = if (firstL (c :: r)).2.2.2.2 = 0 then cons ⟨(firstL (c :: r)).1, p, (firstL (c :: r)).2.1, (firstL (c :: r)).2.2.1⟩ (lexA ((c :: r).drop (firstL (c :: r)).2.2.2.1) (p + (firstL (c :: r)).2.2.2.1)) else .error (p, (firstL (c :: r)).2.2.2.2) := by
  rw [lexA_cons, if_neg (by simp [hb]), if_neg (by simpa using hs)]
  unfold firstL
  simp only []
  split
  · rfl
  split
  · rfl
  split
  · rfl
  split
  · split
    · rename_i h
      have : r.tail = r.drop 1 := by cases r <;> rfl
      rw [this]; rfl
    split
    · have : r.tail = r.drop 1 := by cases r <;> rfl
      rw [this]; rfl
    · rfl
  split
  · have hm := one_mv (c :: r.takeWhile isLet) 0 p
    rw [Int.zero_add] at hm
    rw [hm]
    cases ho : one (c :: r.takeWhile isLet) 0 with
    | error e =>
      simp only []
      rw [if_neg (one_err _ _ _ ho)]
    | ok t =>
      simp only []
      have hz : t.pos = 0 := by unfold one at ho; split at ho <;> split at ho <;> cases ho <;> rfl
      rw [if_pos trivial]
      rw [Nat.add_comm 1, List.drop_succ_cons, drop_takeWhile]
      have e1 : mv p t = ⟨t.kind, p, t.n, t.s⟩ := by unfold mv; rw [hz]; simp
      rw [e1]
      congr 2
      omega
  · rfl
theorem firstL_width (c : UInt8) (r : List UInt8) (h : (firstL (c :: r)).2.2.2.2 = 0) : 1 ≤ (firstL (c :: r)).2.2.2.1 ∧ (firstL (c :: r)).2.2.2.1 ≤ (c :: r).length := by
  have hl := take_drop_len isLet r
  unfold firstL at h ⊢
  simp only [] at h ⊢
  split
  · simp
  split
  · simp
  split
  · simp
  split
  · split
    · rename_i h1
      cases r with
      | nil => simp at h1
      | cons d r => simp
    split
    · rename_i h1
      cases r with
      | nil => simp at h1
      | cons d r => simp
    · rename_i h1 h2 h3 h4 h5 h6
      simp [h1, h2, h3, h4, h5, h6] at h
  split
  · split
    · simp; omega
    · simp; omega
  · rename_i h1 h2 h3 h4 h5
    simp [h1, h2, h3, h4, h5] at h

/-! ### lex.first, lex.Lex as printed -/
theorem extract_drop (x : ByteArray) (p : Nat) : (x.extract p x.size).data.toList = x.data.toList.drop p := by
  rw [Lib.extract_data, List.take_of_length_le (by simp)]
theorem extract_take (x : ByteArray) (n : Nat) : (x.extract 0 n).data.toList = x.data.toList.take n := by
  rw [Lib.extract_data]; simp
theorem bt_head (x : ByteArray) (p : Nat) (c : UInt8) (r : List UInt8) (h : x.data.toList.drop p = c :: r) : p < x.size ∧ bt x p = c.toNat ∧ x.data.toList.drop (p + 1) = r := by
  have hp : p < x.data.toList.length := by
    rcases Nat.lt_or_ge p x.data.toList.length with h1 | h1
    · exact h1
    · rw [List.drop_of_length_le h1] at h; cases h
  have hp' : p < x.size := by simpa using hp
  have e := List.drop_eq_getElem_cons hp
  rw [h] at e
  have e1 : c = x.data.toList[p] := (List.cons.inj e).1
  have e2 := (List.cons.inj e).2
  refine ⟨hp', ?_, e2.symm⟩
  unfold bt
  rw [dif_pos (by simpa using hp')]
  rw [e1]
  simp
  rfl
def toS (t : Tok) : S30 := ⟨t.kind, t.pos, t.n, ⟨t.s.toArray⟩⟩
def fin (acc : List S30) : Res → List S30 × Int × Int
  | .error (q, e) => ([], q, e)
  | .ok l => (acc ++ l.map toS, 0, 0)
theorem fin_cons (acc : List S30) (t : Tok) (x : Res) : fin acc (cons t x) = fin (acc ++ [toS t]) x := by
  cases x with
  | error e => rfl
  | ok l => simp [fin, cons]

theorem indexByte_marks (c : UInt8) : Lib.indexByte [40, 41, 39] c = if c == 40 then 0 else if c == 41 then 1 else if c == 39 then 2 else -1 := by
  have : ∀ n : Fin 256, Lib.indexByte [40, 41, 39] (UInt8.ofNat n.val) = if UInt8.ofNat n.val == 40 then 0 else if UInt8.ofNat n.val == 41 then 1 else if UInt8.ofNat n.val == 39 then 2 else -1 := by decide +kernel
  have := this ⟨c.toNat, c.toNat_lt⟩
  simpa using this
theorem toNat_eq (c : UInt8) (n : Nat) (hn : n < 256) : ((c.toNat : Int) = n) ↔ c = UInt8.ofNat n := by
  constructor
  · intro h
    apply UInt8.toNat_inj.1
    rw [UInt8.toNat_ofNat']
    omega
  · rintro rfl
    rw [UInt8.toNat_ofNat']
    omega
theorem wrap_small (n : Int) (h : -9223372036854775808 ≤ n) (h2 : n ≤ 9223372036854775807) : wrap64 n = n := by unfold wrap64; omega

theorem first_pr (x : ByteArray) (hx : x.size ≤ 4000) (c : UInt8) (r : List UInt8) (h : x.data.toList = c :: r) :
    lex_first.f x = some ((firstL (c :: r)).1, (0 : Int), (firstL (c :: r)).2.1, (⟨(firstL (c :: r)).2.2.1.toArray⟩ : ByteArray), ((firstL (c :: r)).2.2.2.1 : Int), (firstL (c :: r)).2.2.2.2) := by
  have h0 : x.data.toList.drop 0 = c :: r := by simpa using h
  obtain ⟨hp, hb, hd⟩ := bt_head x 0 c r h0
  have hb : bt x 0 = c.toNat := hb
  have hsz : x.size = r.length + 1 := by rw [Lib.size_eq, h]; rfl
  unfold lex_first.f strings_IndexByte.f
  rw [if_pos (by omega), hb]
  simp only [Option.bind_some, Int.toNat_natCast]
  have e2 : c.toNat.toUInt8 = c := by simp
  rw [e2, indexByte_marks]
  unfold firstL
  simp only []
  split
  · simp
  split
  · simp
  split
  · simp
  rename_i n1 n2 n3
  rw [if_neg (by decide)]
  by_cases h35 : c = 35
  · have h36 : (c.toNat : Int) = 35 := (toNat_eq c 35 (by omega)).2 h35
    rw [if_pos h36, if_pos (by omega)]
    have n5 : (c == 35) = true := by simpa using h35
    clear h36 h35 n1 n2 n3 e2 h0 hb
    unfold lex_word.f
    have hx1 : (x.extract 1 x.size).data.toList = r := by rw [extract_drop, h]; rfl
    have hx1s : (x.extract 1 x.size).size = r.length := by rw [Lib.size_eq, hx1]
    rw [if_pos (by omega), hx1, Option.bind_some]
    have hw : wlen r ≤ r.length := by unfold wlen; exact (List.takeWhile_prefix _).length_le
    rw [wrap_small _ (by omega) (by omega), if_pos (by omega), if_pos (by omega)]
    have ht : (x.extract 1 ((1 + ((wlen r : Nat) : Int)).toNat)).toList = r.takeWhile isLet := by
      rw [Lib.toList_data, Lib.extract_data, h]
      have : (1 + ((wlen r : Nat) : Int)).toNat - 1 = (r.takeWhile isLet).length := by unfold wlen; omega
      rw [this]
      show r.take _ = _
      conv => lhs; arg 2; rw [← takeWhile_split isLet r]
      rw [List.take_left]
    rw [ht]
    simp only [n5, if_true]
    split
    · simp only []
      simp
    · split
      · simp only []
        simp
      · simp only []
        simp
  · rw [if_neg (by intro hc; exact h35 ((toNat_eq c 35 (by omega)).1 hc))]
    have n4 : (c == 35) = false := by simpa using h35
    rw [n4]
    unfold lex_word.f
    rw [if_pos (by omega), h]
    simp only [Option.bind_some, Bool.false_eq_true, if_false]
    cases hl : isLet c with
    | false =>
      have : wlen (c :: r) = 0 := by simp [wlen, List.takeWhile, hl]
      rw [this]
      simp
    | true =>
      have hw : wlen (c :: r) = 1 + (r.takeWhile isLet).length := by simp [wlen, List.takeWhile, hl]; omega
      have hle : (r.takeWhile isLet).length ≤ r.length := (List.takeWhile_prefix _).length_le
      rw [hw, if_neg (by omega), if_pos (by omega), if_pos (by omega)]
      have ht : (x.extract 0 (((1 + (r.takeWhile isLet).length : Nat) : Int).toNat)).data.toList = c :: r.takeWhile isLet := by
        rw [extract_take, h, Int.toNat_natCast, Nat.add_comm, List.take_succ_cons]
        congr 1
        conv => lhs; arg 2; rw [← takeWhile_split isLet r]
        rw [List.take_left]
      unfold lex_token.f
      have hts : (x.extract 0 (((1 + (r.takeWhile isLet).length : Nat) : Int).toNat)).size ≤ 140737488355328 := by
        rw [Lib.size_eq, ht]; simp; omega
      rw [if_pos hts, ht]
      simp only [Option.bind_some, if_true]
      unfold tokenR
      cases one (c :: r.takeWhile isLet) 0 with
      | error e => simp only []
      | ok t => simp only []

theorem lex_l0 (x : ByteArray) (hs : x.size ≤ 4000) (d : Nat) : ∀ (k p : Nat) (acc : List S30), x.size - p = d → p ≤ x.size → d < k → acc.length ≤ p → left (x.data.toList.drop p) = x.data.toList.drop p →
    lex_Lex.l0 k x acc (p : Int) = some (fin acc (lexA (x.data.toList.drop p) p)) := by
  induction d using Nat.strongRecOn with
  | _ d ih =>
  intro k p acc hd hp hk ha hl
  obtain ⟨k, rfl⟩ : ∃ m, k = m + 1 := ⟨k - 1, by omega⟩
  simp only [lex_Lex.l0]
  by_cases hlt : p < x.size
  · rw [if_pos (by omega), if_pos (by omega), if_pos (by omega)]
    obtain ⟨c, r, hcr⟩ : ∃ c r, x.data.toList.drop p = c :: r := by
      cases hx : x.data.toList.drop p with
      | nil => have := congrArg List.length hx; simp at this; omega
      | cons c r => exact ⟨c, r, rfl⟩
    have hst := left_stop (x.data.toList.drop p)
    rw [hl, hcr] at hst
    have hb : isBlank c = false := by
      cases hb : isBlank c with
      | false => rfl
      | true =>
        have h1 := hst.1
        simp only [List.dropWhile, hb] at h1
        have := congrArg List.length h1
        have := dropWhile_le isBlank r
        simp at *; omega
    have h59 : c ≠ 59 := by
      rintro rfl
      have := hst.2
      simp [Lib.hasPrefix, List.isPrefixOf] at this
    have hxs : (x.extract ((p : Int).toNat) x.size).data.toList = c :: r := by rw [Int.toNat_natCast, extract_drop, hcr]
    have hlen : (c :: r).length = x.size - p := by rw [← hcr]; simp
    have hxz : (x.extract ((p : Int).toNat) x.size).size ≤ 4000 := by rw [Lib.size_eq, hxs]; omega
    rw [first_pr _ hxz c r hxs]
    simp only [Option.bind_some]
    rw [hcr, lexA_first c r p hb h59]
    by_cases he : (firstL (c :: r)).2.2.2.2 = 0
    · rw [if_pos he, if_pos he, if_pos (by omega)]
      obtain ⟨w1, w2⟩ := firstL_width c r he
      rw [fin_cons]
      generalize hw : (firstL (c :: r)).2.2.2.1 = wd at w1 w2 ⊢
      rw [wrap_small _ (by omega) (by omega), if_pos (by omega), if_pos (by omega)]
      have hn : ((p : Int) + (wd : Int)).toNat = p + wd := by omega
      rw [hn]
      unfold lex_passed.f
      have hx2 : (x.extract (p + wd) x.size).data.toList = (c :: r).drop wd := by rw [extract_drop, ← hcr, List.drop_drop]
      have hx2s : (x.extract (p + wd) x.size).size = x.size - (p + wd) := by rw [Lib.size_eq, hx2, List.length_drop, hlen]; omega
      have hle2 := left_le ((c :: r).drop wd)
      have hlen2 : ((c :: r).drop wd).length = x.size - (p + wd) := by rw [List.length_drop, hlen]; omega
      rw [if_pos (by omega), hx2, hx2s]
      simp only [Option.bind_some]
      rw [wrap_small _ (by omega) (by omega)]
      have hq : (p : Int) + (wd : Int) + (((x.size - (p + wd) : Nat) : Int) - ((left ((c :: r).drop wd)).length : Nat)) = ((x.size - (left ((c :: r).drop wd)).length : Nat) : Int) := by omega
      rw [hq]
      have hdl : x.data.toList.drop (x.size - (left ((c :: r).drop wd)).length) = left ((c :: r).drop wd) := by
        have h1 := left_drop ((c :: r).drop wd)
        rw [hlen2] at h1
        refine Eq.trans ?_ h1.symm
        generalize (left ((c :: r).drop wd)).length = n at hle2 hq
        rw [← hcr, List.drop_drop, List.drop_drop]
        congr 1
        omega
      rw [ih (x.size - (x.size - (left ((c :: r).drop wd)).length)) (by omega) k _ _ rfl (by omega) (by omega) (by simp; omega) (by rw [hdl]; exact left_idem _)]
      rw [hdl, left_lex ((c :: r).drop wd) (p + wd)]
      have e3 : ((x.size - (left ((c :: r).drop wd)).length : Nat) : Int) = (p : Int) + (wd : Int) + (((c :: r).drop wd).length : Nat) - ((left ((c :: r).drop wd)).length : Nat) := by omega
      rw [e3]
      rfl
    · rw [if_neg he, if_neg he]
      rfl
  · rw [if_neg (by omega)]
    have : x.data.toList.drop p = [] := List.drop_of_length_le (by simp; omega)
    rw [this, lexA_nil]
    simp [fin]

/-- what Lex hands back. -/
def lexR (x : ByteArray) : List S30 × Int × Int := if x.size > 4000 then ([], 0, 3) else fin [] (lexA x.data.toList 0)
theorem lex_pr (x : ByteArray) : lex_Lex.f 4002 x = some (lexR x) := by
  unfold lex_Lex.f lexR
  by_cases h : x.size > 4000
  · rw [if_pos (by omega), if_pos h]
  · rw [if_neg (by omega), if_neg h]
    unfold lex_passed.f
    rw [if_pos (by omega)]
    simp only [Option.bind_some]
    have hle := left_le x.data.toList
    have hlen : x.data.toList.length = x.size := by simp
    have hq : (x.size : Int) - ((left x.data.toList).length : Nat) = ((x.size - (left x.data.toList).length : Nat) : Int) := by omega
    have hdl : x.data.toList.drop (x.size - (left x.data.toList).length) = left x.data.toList := by
      have h1 := left_drop x.data.toList
      rw [hlen] at h1
      exact h1.symm
    rw [hq, lex_l0 x (by omega) _ _ _ _ rfl (by omega) (by omega) (by simp) (by rw [hdl]; exact left_idem _), hdl]
    rw [left_lex x.data.toList 0]
    congr 3
    omega
end Go.Proofs.YthempkdgmobocaaDoorM
