/- Texts of this claim, one behind the other: M4, M5, X2, Nx0, Nx1, M8, Mc. -/
import Derived.Test.YthempkdgmobocaaDoorBb
import Derived.Test.YthempkdgmobocaaDoorBa
import Derived.Test.YthempkdgmobocaaDoorProg
import Derived.Below
import Derived.Deep.Draws
import Derived.Deep.AppendLies
import Derived.Maps.AppendAt
import Derived.OwnWalk
import Derived.Laws.BytesArg
import Derived.Laws.MakeOwn
import Derived.Laws.OwnMore
import Derived.Deep.OwnRows
import Derived.Tactics
import Derived.Lib.ConvBytes
import Derived.Laws.Slices
import Derived.WalkKit
import Derived.KernelRfl
import Derived.RowKit3
import Derived.Deep.LoopGhost
import Derived.Deep.QuietTactic
import Derived.BigQuiet
import Derived.WideLaws
import Derived.Deep.DeepCutAuto
import Derived.Deep.CutBlock
import Derived.Deep.RegionHeld3
import Derived.Laws.Rows
import Derived.Lib.AppendStr
import Derived.ArgAppend
import Derived.Laws.IdiomCopy
import Derived.OrdersHeld
import Derived.Laws.BitsLemmas
import Derived.RowKit
import Derived.Test.YthempkdgmobocaaDoorWWords
import Derived.Test.YthempkdgmobocaaDoorWLast
import Derived.Test.YthempkdgmobocaaDoorWTab
import Derived.Test.YthempkdgmobocaaDoorWFour
import Derived.Test.YthempkdgmobocaaDoorWQPut
import Derived.Test.YthempkdgmobocaaDoorWApart
import Derived.Test.YthempkdgmobocaaDoorWArr
import Derived.Test.YthempkdgmobocaaDoorWZeros
import Derived.Test.YthempkdgmobocaaDoorWFoot
import Derived.Test.YthempkdgmobocaaDoorWKept
import Derived.Test.YthempkdgmobocaaDoorWShare
import Derived.Test.YthempkdgmobocaaDoorWN
import Derived.Test.YthempkdgmobocaaDoorWFootNe
import Derived.Test.YthempkdgmobocaaDoorWAt
import Derived.Test.YthempkdgmobocaaDoorWEqStruct
import Derived.Test.YthempkdgmobocaaDoorWRepsOne
import Derived.Test.YthempkdgmobocaaDoorWInv
import Derived.Test.YthempkdgmobocaaDoorWInvWords
import Derived.Test.YthempkdgmobocaaDoorWGuard
import Derived.Test.YthempkdgmobocaaDoorWNEv
import Derived.Test.YthempkdgmobocaaDoorWMore
section
/- The plain law: what lex.Lex computes, by its printed form. -/
namespace Go.Proofs.YthempkdgmobocaaDoorM
open Go Go.RowKit Go.Proofs.YthempkdgmobocaaDoorEd Go.Proofs.YthempkdgmobocaaDoorE Go.Proofs.YthempkdgmobocaaDoorX Go.Proofs.YthempkdgmobocaaDoor.L
open Go.Proofs.YthempkdgmobocaaDoorW.PrintWords

/-! ### Blanks and remarks -/
theorem skipF_suffix (f : Nat) (t : List UInt8) : skipF f t <:+ t := by
  induction f generalizing t with
  | zero => exact List.suffix_refl _
  | succ f ih =>
    unfold skipF
    split
    · refine (ih _).trans ((List.dropWhile_suffix _).trans ?_)
      unfold tailNl
      exact (List.drop_suffix _ _).trans (List.dropWhile_suffix _)
    · exact List.suffix_refl _
theorem left_suffix (l : List UInt8) : left l <:+ l := (skipF_suffix _ _).trans (List.dropWhile_suffix _)
theorem left_drop (l : List UInt8) : left l = l.drop (l.length - (left l).length) := List.suffix_iff_eq_drop.1 (left_suffix l)

theorem dropWhile_idem (q : UInt8 → Bool) (l : List UInt8) : (l.dropWhile q).dropWhile q = l.dropWhile q := by
  induction l with
  | nil => rfl
  | cons c r ih =>
    simp only [List.dropWhile]
    cases h : q c with
    | true => simpa using ih
    | false => simp [List.dropWhile, h]
theorem skipF_stop (f : Nat) (t : List UInt8) (h : t.length < f) (hb : t.dropWhile isBlank = t) : (skipF f t).dropWhile isBlank = skipF f t ∧ Lib.hasPrefix (skipF f t) [59] = false := by
  induction f generalizing t with
  | zero => omega
  | succ f ih =>
    unfold skipF
    split
    · rename_i hp
      have h1 := tailNl_lt t hp
      have h2 := dropWhile_le isBlank (tailNl t)
      exact ih _ (by omega) (dropWhile_idem _ _)
    · rename_i hp
      exact ⟨hb, by simpa using hp⟩
theorem left_stop (l : List UInt8) : (left l).dropWhile isBlank = left l ∧ Lib.hasPrefix (left l) [59] = false :=
  skipF_stop _ _ (Nat.lt_succ_of_le (dropWhile_le _ _)) (dropWhile_idem _ _)
theorem left_idem (l : List UInt8) : left (left l) = left l := by
  have h := left_stop l
  generalize left l = t at h
  unfold left
  rw [h.1]
  unfold skipF
  rw [if_neg (by simp [h.2])]

theorem lexA_blanks (l : List UInt8) (p : Int) : lexA l p = lexA (l.dropWhile isBlank) (p + (l.takeWhile isBlank).length) := by
  induction l generalizing p with
  | nil => rfl
  | cons c r ih =>
    cases h : isBlank c with
    | true =>
      rw [lexA_blank c r p h, ih]
      simp only [List.dropWhile, List.takeWhile, h, List.length_cons]
      congr 1; omega
    | false => simp [List.dropWhile, List.takeWhile, h]
theorem hasPrefix_59 (t : List UInt8) (h : Lib.hasPrefix t [59] = true) : ∃ r, t = 59 :: r := by
  cases t with
  | nil => simp [Lib.hasPrefix] at h
  | cons c r =>
    refine ⟨r, ?_⟩
    simp [Lib.hasPrefix, List.isPrefixOf] at h
    rw [h]
theorem skipF_lex (f : Nat) (t : List UInt8) (p : Int) : ∃ q, lexA t p = lexA (skipF f t) q ∧ (skipF f t ≠ [] → q = p + t.length - (skipF f t).length) := by
  induction f generalizing t p with
  | zero => exact ⟨p, rfl, fun _ => by simp [skipF]⟩
  | succ f ih =>
    unfold skipF
    split
    · rename_i hp
      obtain ⟨r, rfl⟩ := hasPrefix_59 t hp
      have hd : tailNl (59 :: r) = (r.dropWhile (· != 10)).drop 1 := by
        unfold tailNl
        rfl
      have e : lexA (59 :: r) p = lexA (r.dropWhile (· != 10)) (p + 1 + (r.takeWhile (· != 10)).length) := by
        rw [lexA_cons, if_neg (by decide), if_pos (by decide)]
      have hl := take_drop_len (· != 10) r
      rw [hd, e]
      cases hx : r.dropWhile (· != 10) with
      | nil =>
        obtain ⟨q, h1, h2⟩ := ih ([] : List UInt8) p
        have hn : skipF f ([] : List UInt8) = [] := List.eq_nil_of_length_eq_zero (by have := skipF_le f []; simp at this ⊢; exact this)
        refine ⟨p, ?_, fun hne => absurd (by simp [hn]) hne⟩
        simp [hn, lexA_nil]
      | cons c z =>
        have hc : c = 10 := by
          have := List.head_dropWhile_not (p := (· != 10)) (l := r) (by rw [hx]; simp)
          simp only [hx, List.head_cons] at this
          simpa using this
        subst hc
        rw [hx] at hl
        simp only [List.drop_succ_cons, List.drop_zero]
        rw [lexA_blank 10 z _ (by decide), lexA_blanks z]
        obtain ⟨q, h1, h2⟩ := ih (z.dropWhile isBlank) (p + 1 + (r.takeWhile (· != 10)).length + 1 + (z.takeWhile isBlank).length)
        refine ⟨q, h1, fun hne => ?_⟩
        rw [h2 hne]
        have := take_drop_len isBlank z
        simp only [List.length_cons] at hl ⊢
        omega
    · exact ⟨p, rfl, fun _ => by omega⟩
theorem left_lex (l : List UInt8) (p : Int) : lexA l p = lexA (left l) (p + l.length - (left l).length) := by
  rw [lexA_blanks l p]
  obtain ⟨q, h1, h2⟩ := skipF_lex (l.length + 1) (l.dropWhile isBlank) (p + (l.takeWhile isBlank).length)
  rw [h1]
  show lexA (left l) q = _
  by_cases hne : left l = []
  · rw [hne]; rfl
  · have := h2 hne
    have hl := take_drop_len isBlank l
    congr 1
    rw [this]
    show _ - ((left l).length : Int) = _
    omega

/-! ### The first token of a text -/
/-- kind, number, name, width, error. -/
def firstL (l : List UInt8) : Int × Int × List UInt8 × Nat × Int :=
  match l with
  | [] => (0, 0, [], 0, 50)
  | c :: r =>
    if c == 40 then (1, 0, [], 1, 0) else if c == 41 then (2, 0, [], 1, 0) else if c == 39 then (3, 0, [], 1, 0)
    else if c == 35 then
      if r.takeWhile isLet = [116] then (5, 1, [], 2, 0) else if r.takeWhile isLet = [102] then (5, 0, [], 2, 0) else (0, 0, [], 0, 50)
    else if isLet c then
      match one (c :: r.takeWhile isLet) 0 with
      | .error e => (0, 0, [], 1 + (r.takeWhile isLet).length, e)
      | .ok t => (t.kind, t.n, t.s, 1 + (r.takeWhile isLet).length, 0)
    else (0, 0, [], 0, 50)
theorem one_err (w : List UInt8) (p : Int) (e : Int) (h : one w p = .error e) : e ≠ 0 := by
  unfold one at h
  split at h <;> split at h <;> cases h <;> decide
theorem drop_takeWhile (q : UInt8 → Bool) (r : List UInt8) : r.drop (r.takeWhile q).length = r.dropWhile q := by
  have h := takeWhile_split q r
  have : (r.takeWhile q ++ r.dropWhile q).drop (r.takeWhile q).length = r.dropWhile q := List.drop_left
  rw [h] at this
  exact this
theorem lexA_first (c : UInt8) (r : List UInt8) (p : Int) (hb : isBlank c = false) (hs : c ≠ 59) :
    lexA (c :: r) p = if (firstL (c :: r)).2.2.2.2 = 0 then cons ⟨(firstL (c :: r)).1, p, (firstL (c :: r)).2.1, (firstL (c :: r)).2.2.1⟩ (lexA ((c :: r).drop (firstL (c :: r)).2.2.2.1) (p + (firstL (c :: r)).2.2.2.1)) else .error (p, (firstL (c :: r)).2.2.2.2) := by
  rw [lexA_cons, if_neg (by simp [hb]), if_neg (by simpa using hs)]
  unfold firstL
  simp only []
  split
  · rfl
  split
  · rfl
  split
  · rfl
  split
  · split
    · rename_i h
      have : r.tail = r.drop 1 := by cases r <;> rfl
      rw [this]; rfl
    split
    · have : r.tail = r.drop 1 := by cases r <;> rfl
      rw [this]; rfl
    · rfl
  split
  · have hm := one_mv (c :: r.takeWhile isLet) 0 p
    rw [Int.zero_add] at hm
    rw [hm]
    cases ho : one (c :: r.takeWhile isLet) 0 with
    | error e =>
      simp only []
      rw [if_neg (one_err _ _ _ ho)]
    | ok t =>
      simp only []
      have hz : t.pos = 0 := by unfold one at ho; split at ho <;> split at ho <;> cases ho <;> rfl
      rw [if_pos trivial]
      rw [Nat.add_comm 1, List.drop_succ_cons, drop_takeWhile]
      have e1 : mv p t = ⟨t.kind, p, t.n, t.s⟩ := by unfold mv; rw [hz]; simp
      rw [e1]
      congr 2
      omega
  · rfl
theorem firstL_width (c : UInt8) (r : List UInt8) (h : (firstL (c :: r)).2.2.2.2 = 0) : 1 ≤ (firstL (c :: r)).2.2.2.1 ∧ (firstL (c :: r)).2.2.2.1 ≤ (c :: r).length := by
  have hl := take_drop_len isLet r
  unfold firstL at h ⊢
  simp only [] at h ⊢
  split
  · simp
  split
  · simp
  split
  · simp
  split
  · split
    · rename_i h1
      cases r with
      | nil => simp at h1
      | cons d r => simp
    split
    · rename_i h1
      cases r with
      | nil => simp at h1
      | cons d r => simp
    · rename_i h1 h2 h3 h4 h5 h6
      simp [h1, h2, h3, h4, h5, h6] at h
  split
  · split
    · simp; omega
    · simp; omega
  · rename_i h1 h2 h3 h4 h5
    simp [h1, h2, h3, h4, h5] at h

/-! ### lex.first, lex.Lex as printed -/
theorem extract_drop (x : ByteArray) (p : Nat) : (x.extract p x.size).data.toList = x.data.toList.drop p := by
  rw [Lib.extract_data, List.take_of_length_le (by simp)]
theorem extract_take (x : ByteArray) (n : Nat) : (x.extract 0 n).data.toList = x.data.toList.take n := by
  rw [Lib.extract_data]; simp
theorem bt_head (x : ByteArray) (p : Nat) (c : UInt8) (r : List UInt8) (h : x.data.toList.drop p = c :: r) : p < x.size ∧ bt x p = c.toNat ∧ x.data.toList.drop (p + 1) = r := by
  have hp : p < x.data.toList.length := by
    rcases Nat.lt_or_ge p x.data.toList.length with h1 | h1
    · exact h1
    · rw [List.drop_of_length_le h1] at h; cases h
  have hp' : p < x.size := by simpa using hp
  have e := List.drop_eq_getElem_cons hp
  rw [h] at e
  have e1 : c = x.data.toList[p] := (List.cons.inj e).1
  have e2 := (List.cons.inj e).2
  refine ⟨hp', ?_, e2.symm⟩
  unfold bt
  rw [dif_pos (by simpa using hp')]
  rw [e1]
  simp
  rfl
def toS (t : Tok) : S30 := ⟨t.kind, t.pos, t.n, ⟨t.s.toArray⟩⟩
def fin (acc : List S30) : Res → List S30 × Int × Int
  | .error (q, e) => ([], q, e)
  | .ok l => (acc ++ l.map toS, 0, 0)
theorem fin_cons (acc : List S30) (t : Tok) (x : Res) : fin acc (cons t x) = fin (acc ++ [toS t]) x := by
  cases x with
  | error e => rfl
  | ok l => simp [fin, cons]

theorem indexByte_marks (c : UInt8) : Lib.indexByte [40, 41, 39] c = if c == 40 then 0 else if c == 41 then 1 else if c == 39 then 2 else -1 := by
  have : ∀ n : Fin 256, Lib.indexByte [40, 41, 39] (UInt8.ofNat n.val) = if UInt8.ofNat n.val == 40 then 0 else if UInt8.ofNat n.val == 41 then 1 else if UInt8.ofNat n.val == 39 then 2 else -1 := by decide +kernel
  have := this ⟨c.toNat, c.toNat_lt⟩
  simpa using this
theorem toNat_eq (c : UInt8) (n : Nat) (hn : n < 256) : ((c.toNat : Int) = n) ↔ c = UInt8.ofNat n := by
  constructor
  · intro h
    apply UInt8.toNat_inj.1
    rw [UInt8.toNat_ofNat']
    omega
  · rintro rfl
    rw [UInt8.toNat_ofNat']
    omega
theorem wrap_small (n : Int) (h : -9223372036854775808 ≤ n) (h2 : n ≤ 9223372036854775807) : wrap64 n = n := by unfold wrap64; omega

theorem first_pr (x : ByteArray) (hx : x.size ≤ 4000) (c : UInt8) (r : List UInt8) (h : x.data.toList = c :: r) :
    lex_first.f x = some ((firstL (c :: r)).1, (0 : Int), (firstL (c :: r)).2.1, (⟨(firstL (c :: r)).2.2.1.toArray⟩ : ByteArray), ((firstL (c :: r)).2.2.2.1 : Int), (firstL (c :: r)).2.2.2.2) := by
  have h0 : x.data.toList.drop 0 = c :: r := by simpa using h
  obtain ⟨hp, hb, hd⟩ := bt_head x 0 c r h0
  have hb : bt x 0 = c.toNat := hb
  have hsz : x.size = r.length + 1 := by rw [Lib.size_eq, h]; rfl
  unfold lex_first.f strings_IndexByte.f
  rw [if_pos (by omega), hb]
  simp only [Option.bind_some, Int.toNat_natCast]
  have e2 : c.toNat.toUInt8 = c := by simp
  rw [e2, indexByte_marks]
  unfold firstL
  simp only []
  split
  · simp
  split
  · simp
  split
  · simp
  rename_i n1 n2 n3
  rw [if_neg (by decide)]
  by_cases h35 : c = 35
  · have h36 : (c.toNat : Int) = 35 := (toNat_eq c 35 (by omega)).2 h35
    rw [if_pos h36, if_pos (by omega)]
    have n5 : (c == 35) = true := by simpa using h35
    clear h36 h35 n1 n2 n3 e2 h0 hb
    unfold lex_word.f
    have hx1 : (x.extract 1 x.size).data.toList = r := by rw [extract_drop, h]; rfl
    have hx1s : (x.extract 1 x.size).size = r.length := by rw [Lib.size_eq, hx1]
    rw [if_pos (by omega), hx1, Option.bind_some]
    have hw : wlen r ≤ r.length := by unfold wlen; exact (List.takeWhile_prefix _).length_le
    rw [wrap_small _ (by omega) (by omega), if_pos (by omega), if_pos (by omega)]
    have ht : (x.extract 1 ((1 + ((wlen r : Nat) : Int)).toNat)).toList = r.takeWhile isLet := by
      rw [Lib.toList_data, Lib.extract_data, h]
      have : (1 + ((wlen r : Nat) : Int)).toNat - 1 = (r.takeWhile isLet).length := by unfold wlen; omega
      rw [this]
      show r.take _ = _
      conv => lhs; arg 2; rw [← takeWhile_split isLet r]
      rw [List.take_left]
    rw [ht]
    simp only [n5, if_true]
    split
    · simp only []
      simp
    · split
      · simp only []
        simp
      · simp only []
        simp
  · rw [if_neg (by intro hc; exact h35 ((toNat_eq c 35 (by omega)).1 hc))]
    have n4 : (c == 35) = false := by simpa using h35
    rw [n4]
    unfold lex_word.f
    rw [if_pos (by omega), h]
    simp only [Option.bind_some, Bool.false_eq_true, if_false]
    cases hl : isLet c with
    | false =>
      have : wlen (c :: r) = 0 := by simp [wlen, List.takeWhile, hl]
      rw [this]
      simp
    | true =>
      have hw : wlen (c :: r) = 1 + (r.takeWhile isLet).length := by simp [wlen, List.takeWhile, hl]; omega
      have hle : (r.takeWhile isLet).length ≤ r.length := (List.takeWhile_prefix _).length_le
      rw [hw, if_neg (by omega), if_pos (by omega), if_pos (by omega)]
      have ht : (x.extract 0 (((1 + (r.takeWhile isLet).length : Nat) : Int).toNat)).data.toList = c :: r.takeWhile isLet := by
        rw [extract_take, h, Int.toNat_natCast, Nat.add_comm, List.take_succ_cons]
        congr 1
        conv => lhs; arg 2; rw [← takeWhile_split isLet r]
        rw [List.take_left]
      unfold lex_token.f
      have hts : (x.extract 0 (((1 + (r.takeWhile isLet).length : Nat) : Int).toNat)).size ≤ 140737488355328 := by
        rw [Lib.size_eq, ht]; simp; omega
      rw [if_pos hts, ht]
      simp only [Option.bind_some, if_true]
      unfold tokenR
      cases one (c :: r.takeWhile isLet) 0 with
      | error e => simp only []
      | ok t => simp only []

theorem lex_l0 (x : ByteArray) (hs : x.size ≤ 4000) (d : Nat) : ∀ (k p : Nat) (acc : List S30), x.size - p = d → p ≤ x.size → d < k → acc.length ≤ p → left (x.data.toList.drop p) = x.data.toList.drop p →
    lex_Lex.l0 k x acc (p : Int) = some (fin acc (lexA (x.data.toList.drop p) p)) := by
  induction d using Nat.strongRecOn with
  | _ d ih =>
  intro k p acc hd hp hk ha hl
  obtain ⟨k, rfl⟩ : ∃ m, k = m + 1 := ⟨k - 1, by omega⟩
  simp only [lex_Lex.l0]
  by_cases hlt : p < x.size
  · rw [if_pos (by omega), if_pos (by omega), if_pos (by omega)]
    obtain ⟨c, r, hcr⟩ : ∃ c r, x.data.toList.drop p = c :: r := by
      cases hx : x.data.toList.drop p with
      | nil => have := congrArg List.length hx; simp at this; omega
      | cons c r => exact ⟨c, r, rfl⟩
    have hst := left_stop (x.data.toList.drop p)
    rw [hl, hcr] at hst
    have hb : isBlank c = false := by
      cases hb : isBlank c with
      | false => rfl
      | true =>
        have h1 := hst.1
        simp only [List.dropWhile, hb] at h1
        have := congrArg List.length h1
        have := dropWhile_le isBlank r
        simp at *; omega
    have h59 : c ≠ 59 := by
      rintro rfl
      have := hst.2
      simp [Lib.hasPrefix, List.isPrefixOf] at this
    have hxs : (x.extract ((p : Int).toNat) x.size).data.toList = c :: r := by rw [Int.toNat_natCast, extract_drop, hcr]
    have hlen : (c :: r).length = x.size - p := by rw [← hcr]; simp
    have hxz : (x.extract ((p : Int).toNat) x.size).size ≤ 4000 := by rw [Lib.size_eq, hxs]; omega
    rw [first_pr _ hxz c r hxs]
    simp only [Option.bind_some]
    rw [hcr, lexA_first c r p hb h59]
    by_cases he : (firstL (c :: r)).2.2.2.2 = 0
    · rw [if_pos he, if_pos he, if_pos (by omega)]
      obtain ⟨w1, w2⟩ := firstL_width c r he
      rw [fin_cons]
      generalize hw : (firstL (c :: r)).2.2.2.1 = wd at w1 w2 ⊢
      rw [wrap_small _ (by omega) (by omega), if_pos (by omega), if_pos (by omega)]
      have hn : ((p : Int) + (wd : Int)).toNat = p + wd := by omega
      rw [hn]
      unfold lex_passed.f
      have hx2 : (x.extract (p + wd) x.size).data.toList = (c :: r).drop wd := by rw [extract_drop, ← hcr, List.drop_drop]
      have hx2s : (x.extract (p + wd) x.size).size = x.size - (p + wd) := by rw [Lib.size_eq, hx2, List.length_drop, hlen]; omega
      have hle2 := left_le ((c :: r).drop wd)
      have hlen2 : ((c :: r).drop wd).length = x.size - (p + wd) := by rw [List.length_drop, hlen]; omega
      rw [if_pos (by omega), hx2, hx2s]
      simp only [Option.bind_some]
      rw [wrap_small _ (by omega) (by omega)]
      have hq : (p : Int) + (wd : Int) + (((x.size - (p + wd) : Nat) : Int) - ((left ((c :: r).drop wd)).length : Nat)) = ((x.size - (left ((c :: r).drop wd)).length : Nat) : Int) := by omega
      rw [hq]
      have hdl : x.data.toList.drop (x.size - (left ((c :: r).drop wd)).length) = left ((c :: r).drop wd) := by
        have h1 := left_drop ((c :: r).drop wd)
        rw [hlen2] at h1
        refine Eq.trans ?_ h1.symm
        generalize (left ((c :: r).drop wd)).length = n at hle2 hq
        rw [← hcr, List.drop_drop, List.drop_drop]
        congr 1
        omega
      rw [ih (x.size - (x.size - (left ((c :: r).drop wd)).length)) (by omega) k _ _ rfl (by omega) (by omega) (by simp; omega) (by rw [hdl]; exact left_idem _)]
      rw [hdl, left_lex ((c :: r).drop wd) (p + wd)]
      have e3 : ((x.size - (left ((c :: r).drop wd)).length : Nat) : Int) = (p : Int) + (wd : Int) + (((c :: r).drop wd).length : Nat) - ((left ((c :: r).drop wd)).length : Nat) := by omega
      rw [e3]
      rfl
    · rw [if_neg he, if_neg he]
      rfl
  · rw [if_neg (by omega)]
    have : x.data.toList.drop p = [] := List.drop_of_length_le (by simp; omega)
    rw [this, lexA_nil]
    simp [fin]

/-- what Lex hands back. -/
def lexR (x : ByteArray) : List S30 × Int × Int := if x.size > 4000 then ([], 0, 3) else fin [] (lexA x.data.toList 0)
theorem lex_pr (x : ByteArray) : lex_Lex.f 4002 x = some (lexR x) := by
  unfold lex_Lex.f lexR
  by_cases h : x.size > 4000
  · rw [if_pos (by omega), if_pos h]
  · rw [if_neg (by omega), if_neg h]
    unfold lex_passed.f
    rw [if_pos (by omega)]
    simp only [Option.bind_some]
    have hle := left_le x.data.toList
    have hlen : x.data.toList.length = x.size := by simp
    have hq : (x.size : Int) - ((left x.data.toList).length : Nat) = ((x.size - (left x.data.toList).length : Nat) : Int) := by omega
    have hdl : x.data.toList.drop (x.size - (left x.data.toList).length) = left x.data.toList := by
      have h1 := left_drop x.data.toList
      rw [hlen] at h1
      exact h1.symm
    rw [hq, lex_l0 x (by omega) _ _ _ _ rfl (by omega) (by omega) (by simp) (by rw [hdl]; exact left_idem _), hdl]
    rw [left_lex x.data.toList 0]
    congr 3
    omega
end Go.Proofs.YthempkdgmobocaaDoorM
end
section
/- The plain law: what the reference's Lex computes, by its printed form: the same. -/
namespace Go.Proofs.YthempkdgmobocaaDoorM
open Go Go.RowKit Go.Proofs.YthempkdgmobocaaDoorEd Go.Proofs.YthempkdgmobocaaDoorE Go.Proofs.YthempkdgmobocaaDoorX Go.Proofs.YthempkdgmobocaaDoor.L
open Go.Proofs.YthempkdgmobocaaDoorW.PrintWords

theorem drop_cons_of (x : ByteArray) (p : Nat) (h : p < x.size) : ∃ c r, x.data.toList.drop p = c :: r ∧ bt x p = c.toNat ∧ x.data.toList.drop (p + 1) = r := by
  cases hx : x.data.toList.drop p with
  | nil => have := congrArg List.length hx; simp at this; omega
  | cons c r =>
    obtain ⟨_, h2, h3⟩ := bt_head x p c r hx
    exact ⟨c, r, rfl, h2, h3⟩
theorem letB_nat (c : UInt8) : LetB (c.toNat : Int) = isLet c := by
  unfold LetB; simp
theorem ref_letter_pr (c : UInt8) : ref05_letter.f (c.toNat : Int) = some (isLet c) := by
  unfold ref05_letter.f
  have := c.toNat_lt
  rw [if_pos (by omega), letB_nat]
theorem wlen_cons_yes (c : UInt8) (r : List UInt8) (h : isLet c = true) : wlen (c :: r) = wlen r + 1 := by simp [wlen, List.takeWhile, h]
theorem wlen_cons_no (c : UInt8) (r : List UInt8) (h : isLet c = false) : wlen (c :: r) = 0 := by simp [wlen, List.takeWhile, h]

theorem word_l0 (x : ByteArray) (hs : x.size ≤ 4000) (a : Nat) (d : Nat) : ∀ (k i : Nat), x.size - i = d → i ≤ x.size → a ≤ i → d < k →
    eddywheelref05_word.l0 k x (a : Int) (i : Int) = some (x.extract a (i + wlen (x.data.toList.drop i))) := by
  induction d with
  | zero =>
    intro k i hd hi ha hk
    obtain ⟨k, rfl⟩ : ∃ m, k = m + 1 := ⟨k - 1, by omega⟩
    simp only [eddywheelref05_word.l0]
    rw [if_neg (by omega), if_pos (by omega), if_pos (by omega), if_pos (by omega), List.drop_of_length_le (by simp; omega)]
    rfl
  | succ d ih =>
    intro k i hd hi ha hk
    obtain ⟨k, rfl⟩ : ∃ m, k = m + 1 := ⟨k - 1, by omega⟩
    simp only [eddywheelref05_word.l0]
    obtain ⟨c, r, h1, h2, h3⟩ := drop_cons_of x i (by omega)
    rw [if_pos (by omega), if_pos (by omega), h2, ref_letter_pr, Option.bind_some]
    cases hl : isLet c with
    | true =>
      rw [if_pos rfl, wrap_small _ (by omega) (by omega)]
      have e : (i : Int) + 1 = ((i + 1 : Nat) : Int) := by omega
      rw [e, ih k (i + 1) (by omega) (by omega) (by omega) (by omega), h3, h1, wlen_cons_yes c r hl]
      congr 2
      omega
    | false =>
      rw [if_neg (by simp), if_pos (by omega), if_pos (by omega), if_pos (by omega), h1, wlen_cons_no c r hl]
      rfl
theorem ref_word_pr (x : ByteArray) (hs : x.size ≤ 4000) (k i : Nat) (hi : i ≤ x.size) (hk : x.size - i < k) :
    eddywheelref05_word.f k x (i : Int) = some (x.extract i (i + wlen (x.data.toList.drop i))) :=
  word_l0 x hs i _ k i rfl hi (Nat.le_refl _) hk
theorem word_data (x : ByteArray) (i : Nat) : (x.extract i (i + wlen (x.data.toList.drop i))).data.toList = (x.data.toList.drop i).takeWhile isLet := by
  rw [Lib.extract_data]
  have : i + wlen (x.data.toList.drop i) - i = ((x.data.toList.drop i).takeWhile isLet).length := by unfold wlen; omega
  rw [this]
  conv => lhs; arg 2; rw [← takeWhile_split isLet (x.data.toList.drop i)]
  rw [List.take_left]

theorem number_l0 (x : ByteArray) (hs : x.size ≤ 4000) (d : Nat) : ∀ (k i : Nat), x.size - i = d → i ≤ x.size → d < k →
    eddywheelref05_number.l0 k x (i : Int) = some ((x.data.toList.drop i).all isDig && decide (0 < x.size)) := by
  induction d with
  | zero =>
    intro k i hd hi hk
    obtain ⟨k, rfl⟩ : ∃ m, k = m + 1 := ⟨k - 1, by omega⟩
    simp only [eddywheelref05_number.l0]
    rw [if_neg (by omega), List.drop_of_length_le (by simp; omega)]
    have : decide ((x.size : Int) > 0) = decide (0 < x.size) := decide_eq_decide.2 (by omega)
    rw [this]; rfl
  | succ d ih =>
    intro k i hd hi hk
    obtain ⟨k, rfl⟩ : ∃ m, k = m + 1 := ⟨k - 1, by omega⟩
    simp only [eddywheelref05_number.l0]
    obtain ⟨c, r, h1, h2, h3⟩ := drop_cons_of x i (by omega)
    have hdg := isDig_nat c
    rw [if_pos (by omega), if_pos (by omega), h2, h1]
    by_cases ha : (c.toNat : Int) < 48
    · have : isDig c = false := by rw [hdg]; simp; omega
      rw [if_pos ha]; simp [this]
    by_cases hb : (c.toNat : Int) > 57
    · have : isDig c = false := by rw [hdg]; simp; omega
      rw [if_neg ha, if_pos hb]; simp [this]
    · have : isDig c = true := by rw [hdg]; simp; omega
      rw [if_neg ha, if_neg hb, wrap_small _ (by omega) (by omega)]
      have e : (i : Int) + 1 = ((i + 1 : Nat) : Int) := by omega
      rw [e, ih k (i + 1) (by omega) (by omega) (by omega), h3]
      simp [this]
theorem number_pr (x : ByteArray) (hs : x.size ≤ 4000) (k : Nat) (h0 : 0 < x.size) (hk : x.size + 1 < k) : eddywheelref05_number.f k x = some (isNum x.data.toList) := by
  unfold eddywheelref05_number.f
  obtain ⟨c, r, h1, h2, h3⟩ := drop_cons_of x 0 h0
  obtain ⟨k, rfl⟩ : ∃ m, k = m + 1 := ⟨k - 1, by omega⟩
  have h2 : bt x 0 = c.toNat := h2
  have hx : x.data.toList = c :: r := by simpa using h1
  have hr : r.length + 1 = x.size := by rw [Lib.size_eq, hx]; rfl
  rw [if_pos (by omega), h2]
  by_cases hc : (c.toNat : Int) = 45
  · rw [if_pos hc, if_pos (by omega)]
    simp only [eddywheelref05_number.j0]
    have hd : (x.extract 1 x.size).data.toList = r := by rw [extract_drop]; exact h3
    have hz : (x.extract 1 x.size).size = r.length := by rw [Lib.size_eq, hd]
    have := number_l0 (x.extract 1 x.size) (by omega) _ k 0 rfl (by omega) (by omega)
    have e0 : ((0 : Nat) : Int) = 0 := rfl
    rw [e0] at this
    rw [this, hd, hz]
    have hc' : c = 45 := (toNat_eq c 45 (by omega)).1 hc
    rw [hx, hc']
    unfold isNum
    simp only [List.drop_zero]
    congr 1
    cases r with
    | nil => rfl
    | cons a b => simp
  · rw [if_neg hc]
    simp only [eddywheelref05_number.j0]
    have := number_l0 x hs _ k 0 rfl (by omega) (by omega)
    have e0 : ((0 : Nat) : Int) = 0 := rfl
    rw [e0] at this
    rw [this, hx]
    have hc' : c ≠ 45 := fun e => hc (by rw [e]; rfl)
    unfold isNum
    split
    · rename_i heq; cases heq; exact absurd rfl hc'
    · simp [h0]

theorem value_l0 (x : ByteArray) (hs : x.size ≤ 14) (d : Nat) : ∀ (k i : Nat) (acc : Int), x.size - i = d → i ≤ x.size → d < k → 0 ≤ acc → acc < 10 ^ i → (∀ c ∈ x.data.toList.drop i, isDig c = true) →
    eddywheelref05_value.l0 k x acc (i : Int) = some ((x.data.toList.drop i).foldl (fun n c => n * 10 + ((c.toNat : Int) - 48)) acc) := by
  induction d with
  | zero =>
    intro k i acc hd hi hk h0 h1 hall
    obtain ⟨k, rfl⟩ : ∃ m, k = m + 1 := ⟨k - 1, by omega⟩
    simp only [eddywheelref05_value.l0]
    rw [if_neg (by omega), List.drop_of_length_le (by simp; omega)]
    rfl
  | succ d ih =>
    intro k i acc hd hi hk h0 h1 hall
    obtain ⟨k, rfl⟩ : ∃ m, k = m + 1 := ⟨k - 1, by omega⟩
    simp only [eddywheelref05_value.l0]
    obtain ⟨c, r, e1, e2, e3⟩ := drop_cons_of x i (by omega)
    have hc := hall c (by rw [e1]; exact List.mem_cons_self ..)
    rw [isDig_nat] at hc
    have hc2 : 48 ≤ c.toNat ∧ c.toNat ≤ 57 := by simpa using hc
    have hp : (10 : Int) ^ i ≤ 10 ^ 13 := by exact_mod_cast Nat.pow_le_pow_right (by omega) (by omega : i ≤ 13)
    have hp1 : (10 : Int) ^ (i + 1) = 10 ^ i * 10 := Int.pow_succ ..
    rw [if_pos (by omega), if_pos (by omega), e2]
    have e4 : ((c.toNat : Int) - 48) % 256 = (c.toNat : Int) - 48 := by omega
    rw [e4, wrap_small (acc * 10) (by omega) (by omega), wrap_small _ (by omega) (by omega), wrap_small _ (by omega) (by omega)]
    have e : (i : Int) + 1 = ((i + 1 : Nat) : Int) := by omega
    rw [e, ih k (i + 1) _ (by omega) (by omega) (by omega) (by omega) (by rw [hp1]; omega) (by rw [e3]; intro y hy; exact hall y (by rw [e1]; exact List.mem_cons_of_mem _ hy)), e3, e1]
    rfl
theorem value_pr (x : ByteArray) (hs : x.size ≤ 14) (k : Nat) (h : isNum x.data.toList = true) (hk : 30 < k) : eddywheelref05_value.f k x = some (val x.data.toList) := by
  have plain : ∀ (y : ByteArray) (k : Nat), y.size ≤ 14 → 20 < k → y.data.toList ≠ [] → (∀ c ∈ y.data.toList, isDig c = true) → eddywheelref05_value.f k y = some (val0 y.data.toList) := by
    intro y k hy hk hne hd
    obtain ⟨k, rfl⟩ : ∃ m, k = m + 1 := ⟨k - 1, by omega⟩
    simp only [eddywheelref05_value.f]
    have h0 : 0 < y.size := by rw [Lib.size_eq]; exact List.length_pos_iff.2 hne
    obtain ⟨c, r, e1, e2, e3⟩ := drop_cons_of y 0 h0
    have e2 : bt y 0 = c.toNat := e2
    have hx : y.data.toList = c :: r := by simpa using e1
    have hc := hd c (by rw [hx]; exact List.mem_cons_self ..)
    have hn : ¬ ((c.toNat : Int) = 45) := by intro e; rw [isDig_nat] at hc; simp at hc; omega
    rw [if_pos (by omega), e2, if_neg hn]
    have := value_l0 y hy _ k 0 0 rfl (by omega) (by omega) (by omega) (by decide) (by simpa using hd)
    exact this
  obtain ⟨k, rfl⟩ : ∃ m, k = m + 1 := ⟨k - 1, by omega⟩
  rcases isNum_cases _ h with ⟨r, hr, hne, hd⟩ | ⟨hne, hd⟩
  · simp only [eddywheelref05_value.f]
    have hz : x.size = r.length + 1 := by rw [Lib.size_eq, hr]; rfl
    obtain ⟨_, e2, e3⟩ := bt_head x 0 45 r (by simpa using hr)
    have e2 : bt x 0 = 45 := e2
    rw [if_pos (by omega), e2, if_pos rfl, if_pos (by omega)]
    have hd2 : (x.extract 1 x.size).data.toList = r := by rw [extract_drop]; exact e3
    have hz2 : (x.extract 1 x.size).size = r.length := by rw [Lib.size_eq, hd2]
    rw [plain _ k (by omega) (by omega) (by rw [hd2]; exact hne) (by rw [hd2]; exact hd), hd2, Option.bind_some, hr]
    have b := val0_bd r hd
    have : (10 : Int) ^ r.length ≤ 10 ^ 13 := by exact_mod_cast Nat.pow_le_pow_right (by omega) (by omega)
    rw [wrap_small _ (by omega) (by omega)]
    rfl
  · rw [(isNum_digs _ hd hne).2]
    exact plain x (k + 1) hs (by omega) hne hd

/-- the token of a word, flat. -/
def oneR (w : List UInt8) (p : Int) : Int × Int × Int × ByteArray × Int :=
  match one w p with
  | .error e => (0, 0, 0, ⟨#[]⟩, e)
  | .ok t => (t.kind, t.pos, t.n, ⟨t.s.toArray⟩, 0)
theorem one_pr (x : ByteArray) (hs : x.size ≤ 4000) (h0 : 0 < x.size) (k : Nat) (hk : x.size + 40 < k) (p : Int) : eddywheelref05_one.f k x p = some (oneR x.data.toList p) := by
  unfold eddywheelref05_one.f oneR one
  have hz := Lib.size_eq x
  rw [number_pr x hs k h0 (by omega), Option.bind_some]
  cases hn : isNum x.data.toList with
  | true =>
    rw [if_pos rfl, if_pos rfl]
    by_cases h14 : (x.size : Int) > 14
    · rw [if_pos h14, if_pos (by omega)]
    · rw [if_neg h14, value_pr x (by omega) k hn (by omega), Option.bind_some]
      by_cases h13 : (x.size : Int) > 13
      · rw [if_pos h13, if_pos (by omega)]
      rw [if_neg h13]
      by_cases h1 : val x.data.toList ≤ -1099511627776
      · rw [if_pos h1, if_pos (by omega)]
      rw [if_neg h1]
      by_cases h2 : val x.data.toList ≥ 1099511627776
      · rw [if_pos h2, if_pos (by omega)]
      rw [if_neg h2, if_neg (by omega)]
  | false =>
    rw [if_neg (show ¬ (false = true) by simp), if_neg (show ¬ (false = true) by simp)]
    by_cases h32 : (x.size : Int) > 32
    · rw [if_pos h32, if_pos (by omega)]
    · rw [if_neg h32, if_neg (by omega)]

theorem refLex_l1 (x : ByteArray) (hs : x.size ≤ 4000) (acc : List S30) (d : Nat) : ∀ (k i : Nat), x.size - i = d → i ≤ x.size → d + 1 < k →
    ∃ k', k ≤ k' + 1 + ((x.data.toList.drop i).takeWhile (· != 10)).length ∧ eddywheelref05_Lex.l1 k x acc (i : Int) = eddywheelref05_Lex.l0 k' x acc ((i + ((x.data.toList.drop i).takeWhile (· != 10)).length : Nat) : Int) := by
  induction d with
  | zero =>
    intro k i hd hi hk
    obtain ⟨k, rfl⟩ : ∃ m, k = m + 1 := ⟨k - 1, by omega⟩
    refine ⟨k, by omega, ?_⟩
    simp only [eddywheelref05_Lex.l1]
    rw [if_neg (by omega), List.drop_of_length_le (by simp; omega)]
    rfl
  | succ d ih =>
    intro k i hd hi hk
    obtain ⟨k, rfl⟩ : ∃ m, k = m + 1 := ⟨k - 1, by omega⟩
    obtain ⟨c, r, e1, e2, e3⟩ := drop_cons_of x i (by omega)
    simp only [eddywheelref05_Lex.l1]
    rw [if_pos (by omega), if_pos (by omega), e2, e1]
    by_cases hc : c = 10
    · subst hc
      refine ⟨k, by omega, ?_⟩
      rw [if_pos (by decide)]
      rfl
    · rw [if_neg (by intro h; exact hc ((toNat_eq c 10 (by omega)).1 h)), wrap_small _ (by omega) (by omega)]
      obtain ⟨k', h1, h2⟩ := ih k (i + 1) (by omega) (by omega) (by omega)
      have hb : (c != 10) = true := by simpa using hc
      rw [e3] at h1 h2
      refine ⟨k', ?_, ?_⟩
      · simp only [List.takeWhile, hb, List.length_cons]; omega
      · have e : (i : Int) + 1 = ((i + 1 : Nat) : Int) := by omega
        rw [e, h2]
        simp only [List.takeWhile, hb, List.length_cons]
        congr 1
        omega

theorem oneR_err (w : List UInt8) (p : Int) : (oneR w p).2.2.2.2 = 0 ↔ ∃ t, one w p = .ok t := by
  unfold oneR
  cases h : one w p with
  | error e => simp [one_err w p e h]
  | ok t => simp
theorem mark_none (c : UInt8) (h1 : c ≠ 40) (h2 : c ≠ 41) (h3 : c ≠ 39) : eddywheelref05_mark.f (c.toNat : Int) = some 0 := by
  unfold eddywheelref05_mark.f
  have n1 : ¬ ((c.toNat : Int) = 40) := fun h => h1 ((toNat_eq c 40 (by omega)).1 h)
  have n2 : ¬ ((c.toNat : Int) = 41) := fun h => h2 ((toNat_eq c 41 (by omega)).1 h)
  have n3 : ¬ ((c.toNat : Int) = 39) := fun h => h3 ((toNat_eq c 39 (by omega)).1 h)
  rw [if_neg n1, if_neg n2, if_neg n3]
theorem mark_40 : eddywheelref05_mark.f ((40 : UInt8).toNat : Int) = some 1 := rfl
theorem mark_41 : eddywheelref05_mark.f ((41 : UInt8).toNat : Int) = some 2 := rfl
theorem mark_39 : eddywheelref05_mark.f ((39 : UInt8).toNat : Int) = some 3 := rfl
theorem beq_no {c d : UInt8} (h : c ≠ d) : ¬ ((c == d) = true) := by simpa using h

theorem refLex_l0 (x : ByteArray) (hs : x.size ≤ 4000) (d : Nat) : ∀ (k p : Nat) (acc : List S30), x.size - p = d → p ≤ x.size → 4 * d + 60 < k → acc.length ≤ p →
    eddywheelref05_Lex.l0 k x acc (p : Int) = some (fin acc (lexA (x.data.toList.drop p) p)) := by
  induction d using Nat.strongRecOn with
  | _ d ih =>
  intro k p acc hd hp hk ha
  obtain ⟨k, rfl⟩ : ∃ m, k = m + 1 := ⟨k - 1, by omega⟩
  simp only [eddywheelref05_Lex.l0]
  by_cases hlt : p < x.size
  · obtain ⟨c, r, e1, e2, e3⟩ := drop_cons_of x p hlt
    have hlen : r.length = x.size - (p + 1) := by rw [← e3]; simp
    obtain ⟨k, rfl⟩ : ∃ m, k = m + 1 := ⟨k - 1, by omega⟩
    have hj : (if (bt x p) = 32 then eddywheelref05_Lex.j1 (k + 1) x acc p (bt x p) true else if (bt x p) = 9 then eddywheelref05_Lex.j1 (k + 1) x acc p (bt x p) true else eddywheelref05_Lex.j1 (k + 1) x acc p (bt x p) ((bt x p) == 10)) = eddywheelref05_Lex.j1 (k + 1) x acc p (c.toNat : Int) (isBlank c) := by
      rw [e2]
      unfold isBlank
      by_cases h1 : c = 32
      · subst h1; rfl
      by_cases h2 : c = 9
      · subst h2; rfl
      have n1 : ¬ ((c.toNat : Int) = 32) := fun h => h1 ((toNat_eq c 32 (by omega)).1 h)
      have n2 : ¬ ((c.toNat : Int) = 9) := fun h => h2 ((toNat_eq c 9 (by omega)).1 h)
      rw [if_neg n1, if_neg n2]
      congr 1
      have : ((c.toNat : Int) == 10) = (c == 10) := by
        rw [Bool.eq_iff_iff, beq_iff_eq, beq_iff_eq]
        exact toNat_eq c 10 (by omega)
      rw [this]; simp [h1, h2]
    rw [if_pos (by omega), if_pos (by omega), hj, e1, lexA_cons]
    have hpp : (p : Int) + 1 = ((p + 1 : Nat) : Int) := by omega
    have next : ∀ (k' q : Nat) (t : Tok) (z : List UInt8), 4 * (x.size - q) + 60 < k' → p < q → q ≤ x.size → x.data.toList.drop q = z → eddywheelref05_Lex.l0 k' x (acc ++ [toS t]) (q : Int) = some (fin acc (cons t (lexA z q))) := by
      intro k' q t z h1 h2 h3 h4
      rw [fin_cons, ← h4]
      exact ih (x.size - q) (by omega) k' q _ rfl h3 h1 (by simp; omega)
    simp only [eddywheelref05_Lex.j1]
    cases hb : isBlank c with
    | true =>
      rw [if_pos rfl, if_pos rfl, wrap_small _ (by omega) (by omega), hpp, ih (x.size - (p + 1)) (by omega) k (p + 1) acc rfl (by omega) (by omega) (by omega), e3]
    | false =>
      rw [if_neg (show ¬ (false = true) by simp), if_neg (show ¬ (false = true) by simp)]
      by_cases h59 : c = 59
      · subst h59
        rw [if_pos (by decide), if_pos (by decide)]
        obtain ⟨k', h1, h2⟩ := refLex_l1 x hs acc _ k p rfl (by omega) (by omega)
        have htw : (x.data.toList.drop p).takeWhile (· != 10) = 59 :: r.takeWhile (· != 10) := by rw [e1]; rfl
        have hle := take_drop_len (· != 10) r
        rw [htw] at h1 h2
        simp only [List.length_cons] at h1 h2
        rw [h2, ih (x.size - (p + ((r.takeWhile (· != 10)).length + 1))) (by omega) k' _ acc rfl (by omega) (by omega) (by omega)]
        have hdr : x.data.toList.drop (p + ((r.takeWhile (· != 10)).length + 1)) = r.dropWhile (· != 10) := by
          rw [← drop_takeWhile, ← e3, List.drop_drop]
          congr 1
          rw [e3]; omega
        rw [hdr]
        congr 3
        omega
      have n59 : ¬ ((c.toNat : Int) = 59) := fun h => h59 ((toNat_eq c 59 (by omega)).1 h)
      rw [if_neg n59, if_neg (beq_no h59)]
      have hal : acc.length < 3518437208883 := by omega
      by_cases h40 : c = 40
      · subst h40
        rw [mark_40, Option.bind_some, if_neg (show ¬ ((1 : Int) = 0) by decide), if_pos hal, wrap_small _ (by omega) (by omega), if_pos (show ((40 : UInt8) == 40) = true by rfl), hpp]
        exact next k (p + 1) ⟨1, p, 0, []⟩ r (by omega) (by omega) (by omega) e3
      by_cases h41 : c = 41
      · subst h41
        rw [mark_41, Option.bind_some, if_neg (show ¬ ((2 : Int) = 0) by decide), if_pos hal, wrap_small _ (by omega) (by omega), if_neg (beq_no h40), if_pos (show ((41 : UInt8) == 41) = true by rfl), hpp]
        exact next k (p + 1) ⟨2, p, 0, []⟩ r (by omega) (by omega) (by omega) e3
      by_cases h39 : c = 39
      · subst h39
        rw [mark_39, Option.bind_some, if_neg (show ¬ ((3 : Int) = 0) by decide), if_pos hal, wrap_small _ (by omega) (by omega), if_neg (beq_no h40), if_neg (beq_no h41), if_pos (show ((39 : UInt8) == 39) = true by rfl), hpp]
        exact next k (p + 1) ⟨3, p, 0, []⟩ r (by omega) (by omega) (by omega) e3
      rw [mark_none c h40 h41 h39, Option.bind_some, if_pos (rfl : (0 : Int) = 0), if_neg (beq_no h40), if_neg (beq_no h41), if_neg (beq_no h39)]
      by_cases h35 : c = 35
      · have n35 : (c.toNat : Int) = 35 := (toNat_eq c 35 (by omega)).2 h35
        have b35 : (c == 35) = true := by simpa using h35
        rw [if_pos n35, if_pos b35, wrap_small _ (by omega) (by omega), hpp, ref_word_pr x hs k (p + 1) (by omega) (by omega), Option.bind_some]
        have hwd := word_data x (p + 1)
        generalize x.extract (p + 1) (p + 1 + wlen (x.data.toList.drop (p + 1))) = wd at hwd
        rw [e3] at hwd
        obtain ⟨k, rfl⟩ : ∃ m, k = m + 1 := ⟨k - 1, by omega⟩
        have hj3 : (if wd.toList = ([116] : List UInt8) then eddywheelref05_Lex.j3 (k + 1) x acc p wd false else eddywheelref05_Lex.j3 (k + 1) x acc p wd (wd.toList != ([102] : List UInt8))) = eddywheelref05_Lex.j3 (k + 1) x acc p wd (!(decide (wd.toList = [116]) || decide (wd.toList = [102]))) := by
          by_cases h1 : wd.toList = [116]
          · rw [if_pos h1]; simp [h1]
          · rw [if_neg h1]
            congr 1
            by_cases h2 : wd.toList = [102]
            · simp [h2]
            · simp [h1, h2]
        rw [hj3]
        simp only [eddywheelref05_Lex.j3]
        rw [Lib.toList_data, hwd]
        have two : ∀ d : UInt8, r.takeWhile isLet = [d] → p + 2 ≤ x.size ∧ x.data.toList.drop (p + 2) = r.tail := by
          intro d hd
          cases r with
          | nil => simp at hd
          | cons e z =>
            simp only [List.length_cons] at hlen
            refine ⟨by omega, ?_⟩
            have := congrArg (List.drop 1) e3
            rw [List.drop_drop] at this
            simpa using this
        have hp2 : (p : Int) + 2 = ((p + 2 : Nat) : Int) := by omega
        by_cases h1 : r.takeWhile isLet = [116]
        · obtain ⟨t1, t2⟩ := two _ h1
          rw [if_neg (by simp [h1]), if_pos h1, if_pos h1, if_pos hal, wrap_small _ (by omega) (by omega), hp2]
          exact next k (p + 2) ⟨5, p, 1, []⟩ r.tail (by omega) (by omega) t1 t2
        · by_cases h2 : r.takeWhile isLet = [102]
          · obtain ⟨t1, t2⟩ := two _ h2
            rw [if_neg (by simp [h2]), if_neg h1, if_neg h1, if_pos h2, if_pos hal, wrap_small _ (by omega) (by omega), hp2]
            exact next k (p + 2) ⟨5, p, 0, []⟩ r.tail (by omega) (by omega) t1 t2
          · rw [if_pos (by simp [h1, h2]), if_neg h1, if_neg h2]
            rfl
      · have n35 : ¬ ((c.toNat : Int) = 35) := fun h => h35 ((toNat_eq c 35 (by omega)).1 h)
        rw [if_neg n35, if_neg (beq_no h35), ref_letter_pr, Option.bind_some]
        cases hl : isLet c with
        | false =>
          rw [if_neg (show ¬ (false = true) by simp), if_neg (show ¬ (false = true) by simp)]
          rfl
        | true =>
          rw [if_pos (rfl : true = true), if_pos (rfl : true = true), ref_word_pr x hs k p (by omega) (by omega), Option.bind_some]
          have hwd := word_data x p
          generalize x.extract p (p + wlen (x.data.toList.drop p)) = wd at hwd
          have htw : (x.data.toList.drop p).takeWhile isLet = c :: r.takeWhile isLet := by rw [e1]; simp [List.takeWhile, hl]
          rw [htw] at hwd
          have hsz : wd.size = (r.takeWhile isLet).length + 1 := by rw [Lib.size_eq, hwd]; rfl
          have hle := take_drop_len isLet r
          rw [one_pr wd (by omega) (by omega) k (by omega), Option.bind_some, hwd]
          unfold oneR
          cases ho : one (c :: r.takeWhile isLet) p with
          | error e =>
            simp only []
            rw [if_neg (one_err _ _ _ ho)]
            rfl
          | ok t =>
            simp only []
            rw [if_pos trivial, if_pos hal, hsz, wrap_small _ (by omega) (by omega)]
            have hq : (p : Int) + (((r.takeWhile isLet).length + 1 : Nat) : Int) = ((p + 1 + (r.takeWhile isLet).length : Nat) : Int) := by omega
            rw [hq]
            have hdr : x.data.toList.drop (p + 1 + (r.takeWhile isLet).length) = r.dropWhile isLet := by
              rw [← drop_takeWhile, ← e3, List.drop_drop]
            have := next k (p + 1 + (r.takeWhile isLet).length) t _ (by omega) (by omega) (by omega) hdr
            have hq2 : (p : Int) + 1 + ((r.takeWhile isLet).length : Nat) = ((p + 1 + (r.takeWhile isLet).length : Nat) : Int) := by omega
            rw [hq2]
            exact this
  · rw [if_neg (by omega)]
    have : x.data.toList.drop p = [] := List.drop_of_length_le (by simp; omega)
    rw [this, lexA_nil]
    simp [fin]
theorem refLex_pr (x : ByteArray) : eddywheelref05_Lex.f 16100 x = some (lexR x) := by
  unfold eddywheelref05_Lex.f lexR
  by_cases h : x.size > 4000
  · rw [if_pos (by omega), if_pos h]
  · rw [if_neg (by omega), if_neg h]
    exact refLex_l0 x (by omega) _ 16100 0 [] rfl (by omega) (by omega) (by simp)
end Go.Proofs.YthempkdgmobocaaDoorM
end
section
/- Contracts of lex.Lex, of the reference's Lex and of Same, by the plain law. -/
namespace Go.Proofs.YthempkdgmobocaaDoorX
open Go Go.RowKit Go.Proofs.YthempkdgmobocaaDoorEd Go.Proofs.YthempkdgmobocaaDoorE Go.Proofs.YthempkdgmobocaaDoorM Go.Proofs.YthempkdgmobocaaDoor.L
open Go.Proofs.YthempkdgmobocaaDoorW.PrintWords

def lexC.f (a0 : ByteArray) : Option ((List (S30)) × Int × Int) := some (lexR a0)
theorem lexC.calls (a0 : ByteArray) (r1 : List (S30)) (r2 : Int) (r3 : Int) (w : World) (hG : GoodW w) (h : lexC.f a0 = some (r1, r2, r3)) :
    Calls Tryd.prog 17 #[.string a0] w fun e w' => ∃ v0_ : Value, e = .returned (.tuple #[v0_, .int .i64 r2, .int .i64 r3]) ∧ Kd.R k30 30 w' w.heap.size (fun _ => True) v0_ r1 ∧ Below w.heap.size w w' :=
  lex_Lex.calls 4002 a0 r1 r2 r3 w hG ((lex_pr a0).trans h)
def refLexC.f (a0 : ByteArray) : Option ((List (S30)) × Int × Int) := some (lexR a0)
theorem refLexC.calls (a0 : ByteArray) (r1 : List (S30)) (r2 : Int) (r3 : Int) (w : World) (h : refLexC.f a0 = some (r1, r2, r3)) :
    Calls Tryd.prog 18 #[.string a0] w fun e w' => ∃ v0_ : Value, e = .returned (.tuple #[v0_, .int .i64 r2, .int .i64 r3]) ∧ Kd.R k30 30 w' w.heap.size (fun _ => True) v0_ r1 ∧ Below w.heap.size w w' :=
  eddywheelref05_Lex.calls 16100 a0 r1 r2 r3 w ((refLex_pr a0).trans h)

theorem same_l0 (l : List S30) (hl : l.length ≤ 1000000) (d : Nat) : ∀ (k i : Nat), l.length - i = d → i ≤ l.length → d < k → eddywheelref05_Same.l0 k l l (i : Int) = some true := by
  induction d with
  | zero =>
    intro k i hd hi hk
    obtain ⟨k, rfl⟩ : ∃ m, k = m + 1 := ⟨k - 1, by omega⟩
    simp only [eddywheelref05_Same.l0]
    rw [if_neg (by omega)]
  | succ d ih =>
    intro k i hd hi hk
    obtain ⟨k, rfl⟩ : ∃ m, k = m + 1 := ⟨k - 1, by omega⟩
    simp only [eddywheelref05_Same.l0]
    rw [if_pos (by omega), if_pos (by omega), if_pos (by omega), if_neg (by simp), YthempkdgmobocaaDoorM.wrap_small _ (by omega) (by omega)]
    exact ih k (i + 1) (by omega) (by omega) (by omega)
def eqS (x y : S30) : Bool := x.f0 == y.f0 && x.f1 == y.f1 && x.f2 == y.f2 && x.f3.data.toList == y.f3.data.toList
def sameB : List S30 → List S30 → Bool
  | [], [] => true
  | x :: a, y :: b => eqS x y && sameB a b
  | _, _ => false
theorem eqS_eq (x y : S30) (h : eqS x y = true) : x = y := by
  obtain ⟨a, b, c, d⟩ := x
  obtain ⟨a', b', c', d'⟩ := y
  simp only [eqS, Bool.and_eq_true, beq_iff_eq] at h
  obtain ⟨⟨⟨rfl, rfl⟩, rfl⟩, h⟩ := h
  have : d = d' := by rw [← Lib.mk_data d, ← Lib.mk_data d', h]
  rw [this]
theorem sameB_eq (l m : List S30) (h : sameB l m = true) : l = m := by
  induction l generalizing m with
  | nil => cases m with
    | nil => rfl
    | cons y b => simp [sameB] at h
  | cons x a ih => cases m with
    | nil => simp [sameB] at h
    | cons y b =>
      simp only [sameB, Bool.and_eq_true] at h
      rw [eqS_eq x y h.1, ih b h.2]
theorem sameB_refl (l : List S30) : sameB l l = true := by
  induction l with
  | nil => rfl
  | cons x a ih => simp [sameB, ih, eqS]
def sameC.f (l0 : List (S30)) (l1 : List (S30)) : Option Bool := if sameB l0 l1 = true ∧ l0.length ≤ 1000000 then some true else none
theorem sameC.calls (A0 : Option Addr) (c0 : Nat) (l0 : List (S30)) (A1 : Option Addr) (c1 : Nat) (l1 : List (S30)) (r : Bool) (w : World) (hr0 : Kd.C k30 w A0 l0.length l0) (hc0 : l0.length ≤ c0) (hr1 : Kd.C k30 w A1 l1.length l1) (hc1 : l1.length ≤ c1) (h : sameC.f l0 l1 = some r) :
    Calls Tryd.prog 19 #[.slice A0 l0.length c0, .slice A1 l1.length c1] w fun e w' => e = .returned (.bool r) ∧ Below w.heap.size w w' := by
  unfold sameC.f at h
  split at h
  · rename_i hh
    obtain ⟨hq, hl⟩ := hh
    obtain rfl := sameB_eq _ _ hq
    cases h
    refine (eddywheelref05_Same.calls (l0.length + 1) A0 c0 l0 A1 c1 l0 true w hr0 hc0 hr1 hc1 ?_).mono fun e w' ⟨he, hd⟩ => ⟨he, hd.below⟩
    unfold eddywheelref05_Same.f
    rw [if_pos rfl]
    exact same_l0 l0 hl _ _ 0 rfl (by omega) (by omega)
  · cases h
theorem sameC_refl (l : List S30) (h : l.length ≤ 1000000) : sameC.f l l = some true := by
  unfold sameC.f; rw [if_pos ⟨sameB_refl l, h⟩]
end Go.Proofs.YthempkdgmobocaaDoorX
end
section
-- Written by myprint.py, a program of the session's own, out of the translation. Lean checks it.
namespace Go.Proofs.YthempkdgmobocaaDoor.N
open Go.RowKit Go.Proofs.YthempkdgmobocaaDoorX Go.Proofs.YthempkdgmobocaaDoorE Go.Proofs.YthempkdgmobocaaDoor.L Go.Proofs.YthempkdgmobocaaDoorW.PrintWords Go.Proofs.YthempkdgmobocaaDoorW.PrintLast Go.Proofs.YthempkdgmobocaaDoorW.PrintMore
attribute [local go_sem] max2_int min2_int max_two min_two max_three min_three max_four min_four   -- for this text's walks alone
attribute [local go_sem] cell_again map_some'
set_option linter.unusedVariables false
set_option linter.unusedSimpArgs false



theorem info4 : (Tryd.prog.info? 4).map (fun i => (i.zero, i.size, i.bytes)) = some (some (.bool false), 1, 1) := by kernel_rfl
-- the values' own types
def rd_L3 (xs : List (List Int)) (i : Int) : (List Int) := xs.getD i.toNat ([] : List Int)
theorem at_L3 {w : World} {A : Option Addr} {n : Nat} {xs : List (List Int)} (h : Kd.C (Kd.slice 3 (Kd.int .i64)) w A n xs) (i : Int) (h0 : 0 ≤ i) (h1 : i < n) : ∃ ad A0 c0, A = some ad ∧ w.cell? (ad.add i.toNat) = some (.slice A0 (rd_L3 xs i).length c0) ∧ (rd_L3 xs i).length ≤ c0 ∧ (Kd.int .i64).C w A0 (rd_L3 xs i).length (rd_L3 xs i) := by
  obtain ⟨ad, c, e, _, hK, hc0⟩ := Kd.C_get h ([] : List Int) i h0 h1
  have hc : ∀ j u, c[j]? = some u → w.cell? (ad.add (i.toNat * 1 + j)) = some u := hc0
  obtain ⟨A0, c0, rfl, l0, g0⟩ := hK
  exact ⟨ad, A0, c0, e, by have hq := hc 0 _ rfl; rwa [Nat.mul_one, Nat.add_zero] at hq, l0, g0⟩

/-! #### struct type 46 -/
structure S46 where
  f0 : Int
  f1 : Int
  f2 : Int
  f3 : ByteArray
  f4 : (List Int)
def z46 : S46 := ⟨(0 : Int), (0 : Int), (0 : Int), (⟨#[]⟩ : ByteArray), ([] : List Int)⟩
def k46 : Kd S46 := Kd.iso (Kd.pair (Kd.int .u8) (Kd.pair (Kd.int .i64) (Kd.pair (Kd.int .i64) (Kd.pair Kd.string (Kd.slice 3 (Kd.int .i64)))))) (fun x : S46 => (x.f0, x.f1, x.f2, x.f3, x.f4))
theorem k46_open {w : World} {x : S46} {cs : List Value} (h : k46.K w x cs) : ∃ A4 c4, cs = [.int .u8 x.f0, .int .i64 x.f1, .int .i64 x.f2, .string x.f3, .slice A4 x.f4.length c4] ∧ x.f4.length ≤ c4 ∧ (Kd.int .i64).C w A4 x.f4.length x.f4 := by
  obtain ⟨_, _, rfl, rfl, ⟨_, _, rfl, rfl, ⟨_, _, rfl, rfl, ⟨_, _, rfl, rfl, ⟨A4, c4, rfl, l4, g4⟩⟩⟩⟩⟩ := h
  exact ⟨A4, c4, rfl, l4, g4⟩
theorem k46_openM {w : World} {base : Nat} {ok : Nat → Prop} {x : S46} {cs : List Value} (h : k46.M w base ok x cs) : ∃ v4, cs = [.int .u8 x.f0, .int .i64 x.f1, .int .i64 x.f2, .string x.f3, v4] ∧ (Kd.int .i64).R 3 w base ok v4 x.f4 := by
  obtain ⟨_, _, rfl, rfl, ⟨_, _, rfl, rfl, ⟨_, _, rfl, rfl, ⟨_, _, rfl, rfl, ⟨v4, rfl, g4⟩⟩⟩⟩⟩ := h
  exact ⟨v4, rfl, g4⟩
theorem k46_mk (w : World) (x : S46) {A4 : Option Addr} {c4 : Nat} (l4 : x.f4.length ≤ c4) (g4 : (Kd.int .i64).C w A4 x.f4.length x.f4) : k46.K w x [.int .u8 x.f0, .int .i64 x.f1, .int .i64 x.f2, .string x.f3, .slice A4 x.f4.length c4] := ⟨[.int .u8 x.f0], [.int .i64 x.f1, .int .i64 x.f2, .string x.f3, .slice A4 x.f4.length c4], rfl, rfl, ⟨[.int .i64 x.f1], [.int .i64 x.f2, .string x.f3, .slice A4 x.f4.length c4], rfl, rfl, ⟨[.int .i64 x.f2], [.string x.f3, .slice A4 x.f4.length c4], rfl, rfl, ⟨[.string x.f3], [.slice A4 x.f4.length c4], rfl, rfl, ⟨A4, c4, rfl, l4, g4⟩⟩⟩⟩⟩
theorem k46_mkM (w : World) (base : Nat) (ok : Nat → Prop) (x : S46) {v4 : Value} (g4 : (Kd.int .i64).R 3 w base ok v4 x.f4) : k46.M w base ok x [.int .u8 x.f0, .int .i64 x.f1, .int .i64 x.f2, .string x.f3, v4] := ⟨[.int .u8 x.f0], [.int .i64 x.f1, .int .i64 x.f2, .string x.f3, v4], rfl, rfl, ⟨[.int .i64 x.f1], [.int .i64 x.f2, .string x.f3, v4], rfl, rfl, ⟨[.int .i64 x.f2], [.string x.f3, v4], rfl, rfl, ⟨[.string x.f3], [v4], rfl, rfl, ⟨v4, rfl, g4⟩⟩⟩⟩⟩
theorem k46_openF {W : World} {ok : Nat → Prop} {x : S46} {cs : List Value} (h : Kd.FK k46 W ok x cs) : ∃ A4 c4, cs = [.int .u8 x.f0, .int .i64 x.f1, .int .i64 x.f2, .string x.f3, .slice A4 x.f4.length c4] ∧ x.f4.length ≤ c4 ∧ Kd.F (Kd.int .i64) W ok A4 x.f4.length x.f4 := by
  obtain ⟨A4, c4, rfl, l4, _⟩ := k46_open (Kd.FK_now h)
  exact ⟨A4, c4, rfl, l4, (fun W' hW => by obtain ⟨A4_, c4_, he, l4_, g4_⟩ := k46_open (h W' hW); injection (Option.some.inj (show some (Value.slice A4 x.f4.length c4) = some (Value.slice A4_ x.f4.length c4_) from congrArg (fun l => l[4]?) he)) with ha_ _ _; rw [ha_]; exact g4_)⟩
theorem k46_mkF (W : World) (ok : Nat → Prop) (x : S46) {A4 : Option Addr} {c4 : Nat} (l4 : x.f4.length ≤ c4) (g4 : Kd.F (Kd.int .i64) W ok A4 x.f4.length x.f4) : Kd.FK k46 W ok x [.int .u8 x.f0, .int .i64 x.f1, .int .i64 x.f2, .string x.f3, .slice A4 x.f4.length c4] := fun W2 hW => k46_mk W2 x l4 (g4 W2 hW)
def rd_T46 (xs : List S46) (i : Int) : S46 := xs.getD i.toNat z46
theorem at_T46 {w : World} {A : Option Addr} {n : Nat} {xs : List S46} (h : Kd.C k46 w A n xs) (i : Int) (h0 : 0 ≤ i) (h1 : i < n) : ∃ ad A4 c4, A = some ad ∧ w.cell? (ad.add (i.toNat * 5)) = some (.int .u8 (rd_T46 xs i).f0) ∧ w.cell? ⟨(ad.add (i.toNat * 5)).block, (ad.add (i.toNat * 5)).off + 1, none⟩ = some (.int .i64 (rd_T46 xs i).f1) ∧ w.cell? ⟨(ad.add (i.toNat * 5)).block, (ad.add (i.toNat * 5)).off + 2, none⟩ = some (.int .i64 (rd_T46 xs i).f2) ∧ w.cell? ⟨(ad.add (i.toNat * 5)).block, (ad.add (i.toNat * 5)).off + 3, none⟩ = some (.string (rd_T46 xs i).f3) ∧ w.cell? ⟨(ad.add (i.toNat * 5)).block, (ad.add (i.toNat * 5)).off + 4, none⟩ = some (.slice A4 (rd_T46 xs i).f4.length c4) ∧ (rd_T46 xs i).f4.length ≤ c4 ∧ (Kd.int .i64).C w A4 (rd_T46 xs i).f4.length (rd_T46 xs i).f4 := by
  obtain ⟨ad, c, e, _, hK, hc0⟩ := Kd.C_get h z46 i h0 h1
  have hc : ∀ j u, c[j]? = some u → w.cell? (ad.add (i.toNat * 5 + j)) = some u := hc0
  obtain ⟨A4, c4, rfl, l4, g4⟩ := k46_open hK
  exact ⟨ad, A4, c4, e, hc 0 _ rfl, by rw [← add_field _ _ 1 (by omega)]; exact hc 1 _ rfl, by rw [← add_field _ _ 2 (by omega)]; exact hc 2 _ rfl, by rw [← add_field _ _ 3 (by omega)]; exact hc 3 _ rfl, by rw [← add_field _ _ 4 (by omega)]; exact hc 4 _ rfl, l4, g4⟩

end Go.Proofs.YthempkdgmobocaaDoor.N
end
section
-- Written by myprint.py, a program of the session's own, out of the translation. Lean checks it.
namespace Go.Proofs.YthempkdgmobocaaDoor.N
open Go.RowKit Go.Proofs.YthempkdgmobocaaDoorX Go.Proofs.YthempkdgmobocaaDoorE Go.Proofs.YthempkdgmobocaaDoor.L Go.Proofs.YthempkdgmobocaaDoorW.PrintWords Go.Proofs.YthempkdgmobocaaDoorW.PrintLast Go.Proofs.YthempkdgmobocaaDoorW.PrintMore
attribute [local go_sem] max2_int min2_int max_two min_two max_three min_three max_four min_four   -- for this text's walks alone
attribute [local go_sem] cell_again map_some'
set_option linter.unusedVariables false
set_option linter.unusedSimpArgs false

/-! ### eddywheelref06_Ints: function 25 -/
def eddywheelref06_Ints.l0 : Nat → List Int → List Int → Int → Option (Bool)
  | 0, _, _, _ => none
  | k + 1, x0, x1, x5 => if x5 < (x0.length : Int) then (if 0 ≤ x5 then (if x5 < (x1.length : Int) then (if (rd x0 x5) = (rd x1 x5) then (eddywheelref06_Ints.l0 k x0 x1 (wrap64 (x5 + 1))) else (some false)) else (none)) else (none)) else (some true)
def eddywheelref06_Ints.f (k : Nat) (l0 : List Int) (l1 : List Int) : Option (Bool) := if (l0.length : Int) = (l1.length : Int) then (eddywheelref06_Ints.l0 k l0 l1 0) else (some false)
theorem eddywheelref06_Ints.mono_l : ∀ k, (∀ y0 y1 y2, LeO (eddywheelref06_Ints.l0 k y0 y1 y2) (eddywheelref06_Ints.l0 (k + 1) y0 y1 y2))
  | 0 => fun _ _ _ r h => by simp [eddywheelref06_Ints.l0] at h
  | k + 1 => by
    have ih0 := eddywheelref06_Ints.mono_l k
    · intro y0 y1 y2
      unfold eddywheelref06_Ints.l0
      repeat' first
      | (with_reducible exact ih0 _ _ _)
      | (with_reducible exact LeO.refl _)
      | (with_reducible exact LeO.none _)
      | (with_reducible refine LeO.ite ?_ ?_)
      | (with_reducible refine LeO.bind ?_ (fun _ => ?_))
      | exact ih0 _ _ _
      | exact LeO.none _
      | refine LeO.ite ?_ ?_
      | refine LeO.bind ?_ (fun _ => ?_)
theorem eddywheelref06_Ints.mono : ∀ a0 a1 k, LeO (eddywheelref06_Ints.f k a0 a1) (eddywheelref06_Ints.f (k + 1) a0 a1) := by
  intro a0 a1 k
  have ih0 := eddywheelref06_Ints.mono_l k
  unfold eddywheelref06_Ints.f
  repeat' first
      | (with_reducible exact ih0 _ _ _)
      | (with_reducible exact LeO.refl _)
      | (with_reducible exact LeO.none _)
      | (with_reducible refine LeO.ite ?_ ?_)
      | (with_reducible refine LeO.bind ?_ (fun _ => ?_))
      | exact ih0 _ _ _
      | exact LeO.none _
      | refine LeO.ite ?_ ?_
      | refine LeO.bind ?_ (fun _ => ?_)
set_option maxHeartbeats 8000000 in
set_option maxRecDepth 100000 in
theorem eddywheelref06_Ints.calls (k : Nat) (A0 : Option Addr) (c0 : Nat) (l0 : List Int) (A1 : Option Addr) (c1 : Nat) (l1 : List Int) (r : Bool) (w : World) (hr0 : Kd.C (Kd.int .i64) w A0 l0.length l0) (hc0 : l0.length ≤ c0) (hr1 : Kd.C (Kd.int .i64) w A1 l1.length l1) (hc1 : l1.length ≤ c1) (h : eddywheelref06_Ints.f k l0 l1 = some r) :
    Calls Tryd.prog 25 #[.slice A0 l0.length c0, .slice A1 l1.length c1] w fun e w' => e = .returned (.bool r) ∧ Drawn0 w w' := by
  have HR0 := Aside0.mk hr0
  have HC0 := Aside0.mk hc0
  clear hr0 hc0
  have HR1 := Aside0.mk hr1
  have HC1 := Aside0.mk hc1
  clear hr1 hc1
  have H : (if (l0.length : Int) = (l1.length : Int) then (eddywheelref06_Ints.l0 k l0 l1 0) else (some false)) = some r := h
  clear h
  by_cases c3 : (l0.length : Int) = (l1.length : Int)
  · rw [if_pos c3] at H
    have c3b0 : ((l0.length : Int) == (l1.length : Int)) = true := beq_iff_eq.mpr c3
    have c3b1 : ((l0.length : Int) != (l1.length : Int)) = false := bne_eq_false_iff_eq.mpr c3
    have c3b2 : (l0.length == l1.length) = true := by first | simpa using c3 | (simp at c3 ⊢; omega)
    clear c3
    have H' := Aside0.mk H
    clear H
    go_enter Tryd.func25, Tryd.ntmps25
    go_wp2
    repeat (go_quiet (fail); try go_wp2)
    go_loopg [5] k (fun kq v5 w' => ∃ (x5_1 : Int), v5 = .int .i64 x5_1 ∧ Aside0 (eddywheelref06_Ints.l0 kq l0 l1 x5_1 = some r) ∧ Aside0 (kq ≤ k) ∧ Drawn0 w w')
    case atStart => exact ⟨(0), (by first | rfl | (simp; done) | (simp [*]; done)), H', ⟨Nat.le_refl _⟩, by repeat (first | exact Drawn0.refl _ | apply Drawn0.step)⟩
    case round =>
      clear H'
      try clear c1
      try clear c2
      try clear p2
      try clear c3
      try clear c3b0
      try clear c3b1
      try clear c3b2
      obtain ⟨x5_1, rfl, HA, HK1, ⟨m1, rfl⟩⟩ := hrel
      cases gk with
      | zero => exact absurd HA.out (by simp [eddywheelref06_Ints.l0])
      | succ k1 =>
        have H := HA.out
        clear HA
        simp only [eddywheelref06_Ints.l0] at H
        by_cases c4 : x5_1 < (l0.length : Int)
        · rw [if_pos c4] at H
          have c4b0 : decide (x5_1 < (l0.length : Int)) = true := decide_eq_true c4
          clear c4
          by_cases c5 : 0 ≤ x5_1
          · rw [if_pos c5] at H
            have c5b0 : decide (0 ≤ x5_1) = true := decide_eq_true c5
            clear c5
            by_cases c6 : x5_1 < (l1.length : Int)
            · rw [if_pos c6] at H
              have c6b0 : decide (x5_1 < (l1.length : Int)) = true := decide_eq_true c6
              clear c6
              by_cases c7 : (rd l0 x5_1) = (rd l1 x5_1)
              · rw [if_pos c7] at H
                have c7b0 : ((rd l0 x5_1) == (rd l1 x5_1)) = true := beq_iff_eq.mpr c7
                have c7b1 : ((rd l0 x5_1) != (rd l1 x5_1)) = false := bne_eq_false_iff_eq.mpr c7
                clear c7
                have H' := Aside0.mk H
                clear H
                have p101 : 0 ≤ (x5_1 : Int) := of_decide_eq_true (by first | (with_reducible assumption) | assumption)
                have q101 : x5_1 < (l0.length : Int) := of_decide_eq_true (by first | (with_reducible assumption) | assumption)
                obtain ⟨ad101, e101, hx101_0⟩ := Kd.at_int HR0.out x5_1 p101 q101
                cases e101
                replace p101 := eq_true p101
                replace q101 := eq_true q101
                have p102 : 0 ≤ (x5_1 : Int) := of_decide_eq_true (by first | (with_reducible assumption) | assumption)
                have q102 : x5_1 < (l1.length : Int) := of_decide_eq_true (by first | (with_reducible assumption) | assumption)
                obtain ⟨ad102, e102, hx102_0⟩ := Kd.at_int HR1.out x5_1 p102 q102
                cases e102
                replace p102 := eq_true p102
                replace q102 := eq_true q102
                go_wp2
                repeat (go_quiet (fail); try go_wp2)
                go_roundg k1
                case measure => have := HK1.out; omega
                case rel => exact ⟨(wrap64 (x5_1 + 1)), (by first | rfl | (simp; done) | (simp [*]; done)), H', ⟨by have := HK1.out; omega⟩, by repeat (first | exact Drawn0.refl _ | apply Drawn0.step)⟩
              · rw [if_neg c7] at H
                have c7b0 : ((rd l0 x5_1) == (rd l1 x5_1)) = false := beq_eq_false_iff_ne.mpr c7
                have c7b1 : ((rd l0 x5_1) != (rd l1 x5_1)) = true := bne_iff_ne.mpr c7
                obtain rfl := Option.some.inj H
                have p101 : 0 ≤ (x5_1 : Int) := of_decide_eq_true (by first | (with_reducible assumption) | assumption)
                have q101 : x5_1 < (l0.length : Int) := of_decide_eq_true (by first | (with_reducible assumption) | assumption)
                obtain ⟨ad101, e101, hx101_0⟩ := Kd.at_int HR0.out x5_1 p101 q101
                cases e101
                replace p101 := eq_true p101
                replace q101 := eq_true q101
                have p102 : 0 ≤ (x5_1 : Int) := of_decide_eq_true (by first | (with_reducible assumption) | assumption)
                have q102 : x5_1 < (l1.length : Int) := of_decide_eq_true (by first | (with_reducible assumption) | assumption)
                obtain ⟨ad102, e102, hx102_0⟩ := Kd.at_int HR1.out x5_1 p102 q102
                cases e102
                replace p102 := eq_true p102
                replace q102 := eq_true q102
                go_wp2
                repeat (go_quiet (fail); try go_wp2)
                go_ret
                exact ⟨by first | rfl | (simp; done) | (simp [*]; done), by repeat (first | exact Drawn0.refl _ | apply Drawn0.step)⟩
            · rw [if_neg c6] at H
              exact absurd H (by simp)
          · rw [if_neg c5] at H
            exact absurd H (by simp)
        · rw [if_neg c4] at H
          have c4b0 : decide (x5_1 < (l0.length : Int)) = false := decide_eq_false c4
          clear c4
          obtain rfl := Option.some.inj H
          go_wp2
          repeat (go_quiet (fail); try go_wp2)
          go_ret
          exact ⟨by first | rfl | (simp; done) | (simp [*]; done), by repeat (first | exact Drawn0.refl _ | apply Drawn0.step)⟩
  · rw [if_neg c3] at H
    have c3b0 : ((l0.length : Int) == (l1.length : Int)) = false := beq_eq_false_iff_ne.mpr c3
    have c3b1 : ((l0.length : Int) != (l1.length : Int)) = true := bne_iff_ne.mpr c3
    have c3b2 : (l0.length == l1.length) = false := by first | simpa using c3 | (simp at c3 ⊢; omega)
    obtain rfl := Option.some.inj H
    go_enter Tryd.func25, Tryd.ntmps25
    go_wp2
    repeat (go_quiet (fail); try go_wp2)
    go_ret
    exact ⟨by first | rfl | (simp; done) | (simp [*]; done), by repeat (first | exact Drawn0.refl _ | apply Drawn0.step)⟩

end Go.Proofs.YthempkdgmobocaaDoor.N
end
section
/- The plain law of the reader. -/
namespace Go.Proofs.YthempkdgmobocaaDoorM
open Go Go.Proofs.YthempkdgmobocaaDoor.L Go.Proofs.YthempkdgmobocaaDoor.N
/-! the plain law of the reader -/
structure Opn where
  p : Int
  q : Bool
  l : List Int
structure St where
  row : List S46
  tops : List Int
  ops : List Opn
def noS : ByteArray := ⟨#[]⟩
def quoteS : ByteArray := ⟨#[113, 117, 111, 116, 101]⟩
def put : List Opn → List S46 → List Int → S46 → St
  | [], row, tops, x => ⟨row ++ [x], tops ++ [(row.length : Int)], []⟩
  | o :: os, row, tops, x =>
    if o.q = true ∧ o.l.length = 1 then put os (row ++ [x]) tops ⟨4, o.p, 0, noS, o.l ++ [(row.length : Int)]⟩
    else ⟨row ++ [x], tops, ⟨o.p, o.q, o.l ++ [(row.length : Int)]⟩ :: os⟩
def St.add (s : St) (x : S46) : St := put s.ops s.row s.tops x
def tok (s : St) (t : S30) : St × Int :=
  if t.f0 = 4 then (s.add ⟨1, t.f1, t.f2, noS, []⟩, 0)
  else if t.f0 = 5 then (s.add ⟨2, t.f1, t.f2, noS, []⟩, 0)
  else if t.f0 = 6 then (s.add ⟨3, t.f1, 0, t.f3, []⟩, 0)
  else if t.f0 = 2 then
    match s.ops with
    | [] => (s, 61)
    | o :: os => if o.q = true then (s, 63) else (put os s.row s.tops ⟨4, o.p, 0, noS, o.l⟩, 0)
  else if 50 ≤ s.ops.length then (s, 62)
  else if t.f0 = 3 then (St.add ⟨s.row, s.tops, ⟨t.f1, true, []⟩ :: s.ops⟩ ⟨3, t.f1, 0, quoteS, []⟩, 0)
  else (⟨s.row, s.tops, ⟨t.f1, false, []⟩ :: s.ops⟩, 0)
def run : St → List S30 → Except (Int × Int) St
  | s, [] => .ok s
  | s, t :: ts => if (tok s t).2 = 0 then run (tok s t).1 ts else .error (t.f1, (tok s t).2)
def lastK (ts : List S30) : Int := match ts.getLast? with | none => 0 | some t => t.f0
def fin2 (ts : List S30) : Except (Int × Int) St → List S46 × List Int × Int × Int
  | .error (p, e) => ([], [], p, e)
  | .ok s => match s.ops with
    | [] => (s.row, s.tops, 0, 0)
    | o :: _ => ([], [], o.p, if lastK ts = 3 then 63 else 60)
def readT (ts : List S30) : List S46 × List Int × Int × Int := fin2 ts (run ⟨[], [], []⟩ ts)

/-! moved -/
def shN (m k : Int) (x : S46) : S46 := ⟨x.f0, x.f1 + k, x.f2, x.f3, x.f4.map (· + m)⟩
def shO (m k : Int) (o : Opn) : Opn := ⟨o.p + k, o.q, o.l.map (· + m)⟩
def shT (k : Int) (t : S30) : S30 := ⟨t.f0, t.f1 + k, t.f2, t.f3⟩
def shS (A : List S46) (X : List Int) (k : Int) (s : St) : St := ⟨A ++ s.row.map (shN A.length k), X ++ s.tops.map (· + (A.length : Int)), s.ops.map (shO A.length k)⟩
theorem put_sh (A : List S46) (X : List Int) (k : Int) (ops : List Opn) : ∀ (row : List S46) (tops : List Int) (x : S46),
    put (ops.map (shO A.length k)) (A ++ row.map (shN A.length k)) (X ++ tops.map (· + (A.length : Int))) (shN A.length k x) = shS A X k (put ops row tops x) := by
  induction ops with
  | nil => intro row tops x; simp [put, shS]; omega
  | cons o os ih =>
    intro row tops x
    simp only [List.map_cons, put]
    have e1 : (shO A.length k o).q = o.q := rfl
    have e2 : (shO A.length k o).l.length = o.l.length := by simp [shO]
    rw [e1, e2]
    split
    · have e3 : (⟨4, (shO A.length k o).p, 0, noS, (shO A.length k o).l ++ [((A ++ row.map (shN A.length k)).length : Int)]⟩ : S46) = shN A.length k ⟨4, o.p, 0, noS, o.l ++ [(row.length : Int)]⟩ := by
        simp [shN, shO]; omega
      rw [e3]
      have := ih (row ++ [x]) tops ⟨4, o.p, 0, noS, o.l ++ [(row.length : Int)]⟩
      rw [List.map_append] at this
      simpa using this
    · simp [shS, shO]; omega
theorem add_sh (A : List S46) (X : List Int) (k : Int) (s : St) (x : S46) : (shS A X k s).add (shN A.length k x) = shS A X k (s.add x) := put_sh A X k s.ops s.row s.tops x
theorem tok_sh (A : List S46) (X : List Int) (k : Int) (s : St) (t : S30) : tok (shS A X k s) (shT k t) = (shS A X k (tok s t).1, (tok s t).2) := by
  have eo : (shS A X k s).ops.length = s.ops.length := by simp [shS]
  unfold tok
  have e0 : (shT k t).f0 = t.f0 := rfl
  simp only [e0, eo]
  split
  · exact Prod.ext ((add_sh A X k s ⟨1, t.f1, t.f2, noS, []⟩)) rfl
  split
  · exact Prod.ext ((add_sh A X k s ⟨2, t.f1, t.f2, noS, []⟩)) rfl
  split
  · exact Prod.ext ((add_sh A X k s ⟨3, t.f1, 0, t.f3, []⟩)) rfl
  split
  · cases h : s.ops with
    | nil => simp [shS, h]
    | cons o os =>
      have e1 : (shS A X k s).ops = shO A.length k o :: os.map (shO A.length k) := by simp [shS, h]
      simp only [e1]
      have e2 : (shO A.length k o).q = o.q := rfl
      rw [e2]
      split
      · rfl
      · exact Prod.ext (put_sh A X k os s.row s.tops ⟨4, o.p, 0, noS, o.l⟩) rfl
  split
  · rfl
  split
  · exact Prod.ext (add_sh A X k ⟨s.row, s.tops, ⟨t.f1, true, []⟩ :: s.ops⟩ ⟨3, t.f1, 0, quoteS, []⟩) rfl
  · rfl
theorem run_sh (A : List S46) (X : List Int) (k : Int) (ts : List S30) : ∀ s, run (shS A X k s) (ts.map (shT k)) =
    (match run s ts with | .error (p, e) => .error (p + k, e) | .ok s' => .ok (shS A X k s')) := by
  induction ts with
  | nil => intro s; rfl
  | cons t ts ih =>
    intro s
    simp only [List.map_cons, run, tok_sh]
    split
    · exact ih _
    · rfl
theorem run_append (a b : List S30) : ∀ s, run s (a ++ b) = (match run s a with | .error e => .error e | .ok s' => run s' b) := by
  induction a with
  | nil => intro s; rfl
  | cons t ts ih =>
    intro s
    simp only [List.cons_append, run]
    split
    · exact ih _
    · rfl
/-! what holds of each datum and of each open list -/
section
variable (PN : Int → Int → Int → ByteArray → Prop) (PO : Int → Bool → Prop)
def Every (s : St) : Prop := (∀ x ∈ s.row, PN x.f0 x.f1 x.f2 x.f3) ∧ ∀ o ∈ s.ops, PO o.p o.q
theorem put_every (hO : ∀ p q, PO p q → PN 4 p 0 noS) (ops : List Opn) : ∀ (row : List S46) (tops : List Int) (x : S46), (∀ y ∈ row, PN y.f0 y.f1 y.f2 y.f3) → (∀ o ∈ ops, PO o.p o.q) → PN x.f0 x.f1 x.f2 x.f3 → Every PN PO (put ops row tops x) := by
  induction ops with
  | nil =>
    intro row tops x hr ho hx
    refine ⟨fun y hy => ?_, fun o ho => by simp [put] at ho⟩
    simp only [put, List.mem_append, List.mem_singleton] at hy
    rcases hy with hy | rfl
    · exact hr y hy
    · exact hx
  | cons o os ih =>
    intro row tops x hr ho hx
    have h1 : ∀ y ∈ row ++ [x], PN y.f0 y.f1 y.f2 y.f3 := by
      intro y hy
      simp only [List.mem_append, List.mem_singleton] at hy
      rcases hy with hy | rfl
      · exact hr y hy
      · exact hx
    simp only [put]
    split
    · exact ih _ _ _ h1 (fun o' h' => ho o' (List.mem_cons_of_mem _ h')) (hO _ _ (ho o (List.mem_cons_self ..)))
    · refine ⟨h1, fun o' h' => ?_⟩
      rcases List.mem_cons.1 h' with rfl | h'
      · exact ho o (List.mem_cons_self ..)
      · exact ho o' (List.mem_cons_of_mem _ h')
/-- what a token must be, that its datum, or list, is so. -/
def TokIs (t : S30) : Prop := (t.f0 = 4 → PN 1 t.f1 t.f2 noS) ∧ (t.f0 = 5 → PN 2 t.f1 t.f2 noS) ∧ (t.f0 = 6 → PN 3 t.f1 0 t.f3) ∧ (t.f0 = 3 → PO t.f1 true ∧ PN 3 t.f1 0 quoteS) ∧ (t.f0 ≠ 2 → t.f0 ≠ 3 → t.f0 ≠ 4 → t.f0 ≠ 5 → t.f0 ≠ 6 → PO t.f1 false)
theorem tok_every (hO : ∀ p q, PO p q → PN 4 p 0 noS) (s : St) (t : S30) (hs : Every PN PO s) (ht : TokIs PN PO t) : Every PN PO (tok s t).1 := by
  obtain ⟨h4, h5, h6, h3, h1⟩ := ht
  unfold tok
  split
  · exact put_every PN PO hO _ _ _ _ hs.1 hs.2 (h4 ‹_›)
  split
  · exact put_every PN PO hO _ _ _ _ hs.1 hs.2 (h5 ‹_›)
  split
  · exact put_every PN PO hO _ _ _ _ hs.1 hs.2 (h6 ‹_›)
  split
  · cases h : s.ops with
    | nil => exact hs
    | cons o os =>
      have ho := hs.2
      rw [h] at ho
      dsimp only
      split
      · exact hs
      · exact put_every PN PO hO _ _ _ _ hs.1 (fun o' h' => ho o' (List.mem_cons_of_mem _ h')) (hO _ _ (ho o (List.mem_cons_self ..)))
  split
  · exact hs
  split
  · rename_i h3'
    refine put_every PN PO hO _ _ _ _ hs.1 (fun o' h' => ?_) (h3 h3').2
    rcases List.mem_cons.1 h' with rfl | h'
    · exact (h3 h3').1
    · exact hs.2 o' h'
  · refine ⟨hs.1, fun o' h' => ?_⟩
    rcases List.mem_cons.1 h' with rfl | h'
    · exact h1 ‹_› ‹_› ‹_› ‹_› ‹_›
    · exact hs.2 o' h'
theorem run_every (hO : ∀ p q, PO p q → PN 4 p 0 noS) (ts : List S30) : ∀ (s s' : St), Every PN PO s → (∀ t ∈ ts, TokIs PN PO t) → run s ts = .ok s' → Every PN PO s' := by
  induction ts with
  | nil => intro s s' hs _ h; cases h; exact hs
  | cons t ts ih =>
    intro s s' hs ht h
    simp only [run] at h
    split at h
    · exact ih _ _ (tok_every PN PO hO s t hs (ht t (List.mem_cons_self ..))) (fun u hu => ht u (List.mem_cons_of_mem _ hu)) h
    · cases h
end
/-! each place is in one list, or by itself -/
def places (s : St) : List Int := s.row.flatMap (·.f4) ++ (s.tops ++ s.ops.flatMap (·.l))
structure Whole (s : St) : Prop where
  one : ∀ p, (places s).count p = if 0 ≤ p ∧ p < s.row.length then 1 else 0
  ahead : ∀ (i : Nat) (x : S46), s.row[i]? = some x → ∀ p ∈ x.f4, 0 ≤ p ∧ p < i
  up : s.tops.Pairwise (· < ·)
  last : s.ops = [] → (s.row = [] ∧ s.tops = []) ∨ s.tops.getLast? = some ((s.row.length : Int) - 1)
theorem whole_nil : Whole ⟨[], [], []⟩ := ⟨fun p => by simp [places], fun i x h => by simp at h, List.Pairwise.nil, fun _ => .inl ⟨rfl, rfl⟩⟩
theorem one_more (n : Nat) (p : Int) : (if 0 ≤ p ∧ p < ((n + 1 : Nat) : Int) then 1 else 0) = (if 0 ≤ p ∧ p < (n : Int) then 1 else 0) + List.count p [(n : Int)] := by
  have hn : List.count p ([(n : Int)]) = if (n : Int) = p then 1 else 0 := by simp [List.count_cons]
  rw [hn]
  by_cases h : (n : Int) = p
  · rw [if_pos (by omega), if_neg (by omega), if_pos h]
  · by_cases h2 : 0 ≤ p ∧ p < n
    · rw [if_pos (by omega), if_pos h2, if_neg h]
    · rw [if_neg (by omega), if_neg h2, if_neg h]
theorem put_whole (ops : List Opn) : ∀ (row : List S46) (tops : List Int) (x : S46),
    (∀ p, (row.flatMap (·.f4) ++ (tops ++ ops.flatMap (·.l)) ++ x.f4).count p = if 0 ≤ p ∧ p < row.length then 1 else 0) →
    (∀ (i : Nat) (y : S46), row[i]? = some y → ∀ p ∈ y.f4, 0 ≤ p ∧ p < i) → tops.Pairwise (· < ·) → Whole (put ops row tops x) := by
  have step : ∀ (row : List S46) (x : S46), (∀ (i : Nat) (y : S46), row[i]? = some y → ∀ p ∈ y.f4, 0 ≤ p ∧ p < i) → (∀ p ∈ x.f4, 0 ≤ p ∧ p < row.length) → ∀ (i : Nat) (y : S46), (row ++ [x])[i]? = some y → ∀ p ∈ y.f4, 0 ≤ p ∧ p < i := by
    intro row x h hx i y hy p hp
    rcases Nat.lt_or_ge i row.length with hi | hi
    · rw [List.getElem?_append_left hi] at hy
      exact h i y hy p hp
    · rw [List.getElem?_append_right hi] at hy
      rcases Nat.eq_zero_or_pos (i - row.length) with h0 | h0
      · rw [h0] at hy
        simp at hy
        subst hy
        have := hx p hp
        omega
      · rw [List.getElem?_eq_none (by simp; omega)] at hy
        cases hy
  have inn : ∀ (l : List Int) (n : Nat) (p : Int) (c : Nat), p ∈ l → l.count p + c = (if 0 ≤ p ∧ p < n then 1 else 0) → 0 ≤ p ∧ p < n := by
    intro l n p c hp h
    have h1 := List.count_pos_iff.2 hp
    by_cases h2 : 0 ≤ p ∧ p < n
    · exact h2
    · rw [if_neg h2] at h; omega
  induction ops with
  | nil =>
    intro row tops x hc ha hu
    have hx : ∀ p ∈ x.f4, 0 ≤ p ∧ p < row.length := fun p hp => inn _ _ p _ hp ((Nat.add_comm _ _).trans ((List.count_append ..).symm.trans (hc p)))
    have ht : ∀ p ∈ tops, p < row.length := fun p hp => (inn _ row.length p (List.count p (row.flatMap (·.f4)) + List.count p x.f4) hp (by rw [← hc p]; simp only [List.flatMap_nil, List.count_append, List.append_nil]; omega)).2
    refine ⟨fun p => ?_, step row x ha hx, ?_, fun _ => .inr (by simp [put])⟩
    · have := hc p
      simp only [put, places, List.flatMap_append, List.flatMap_cons, List.flatMap_nil, List.append_nil, List.count_append, List.length_append, List.length_cons, List.length_nil] at this ⊢
      rw [Nat.zero_add, one_more]
      omega
    · simp only [put]
      rw [List.pairwise_append]
      refine ⟨hu, List.pairwise_singleton _ _, fun a ha b hb => ?_⟩
      rw [List.mem_singleton.1 hb]
      exact ht a ha
  | cons o os ih =>
    intro row tops x hc ha hu
    have hx : ∀ p ∈ x.f4, 0 ≤ p ∧ p < row.length := fun p hp => inn _ _ p _ hp ((Nat.add_comm _ _).trans ((List.count_append ..).symm.trans (hc p)))
    have hcc : ∀ p, List.count p ((row ++ [x]).flatMap (·.f4)) + (List.count p tops + (List.count p (os.flatMap (·.l)) + (List.count p o.l + List.count p ([(row.length : Int)])))) = if 0 ≤ p ∧ p < ((row ++ [x]).length : Int) then 1 else 0 := by
      intro p
      have := hc p
      simp only [List.flatMap_append, List.flatMap_cons, List.flatMap_nil, List.append_nil, List.count_append, List.length_append, List.length_cons, List.length_nil] at this ⊢
      rw [Nat.zero_add, one_more]
      omega
    simp only [put]
    split
    · refine ih _ _ _ (fun p => ?_) (step row x ha hx) hu
      have := hcc p
      simp only [List.count_append] at this ⊢
      omega
    · refine ⟨fun p => ?_, step row x ha hx, hu, fun h => by simp at h⟩
      have := hcc p
      simp only [places, List.flatMap_cons, List.count_append] at this ⊢
      omega
theorem tok_whole (s : St) (t : S30) (hs : Whole s) : Whole (tok s t).1 := by
  have leaf : ∀ x : S46, x.f4 = [] → Whole (s.add x) := fun x hx => put_whole s.ops s.row s.tops x (fun p => by rw [hx, List.append_nil]; exact hs.one p) hs.ahead hs.up
  unfold tok
  split
  · exact leaf _ rfl
  split
  · exact leaf _ rfl
  split
  · exact leaf _ rfl
  split
  · cases h : s.ops with
    | nil => exact hs
    | cons o os =>
      dsimp only
      split
      · exact hs
      · refine put_whole os s.row s.tops _ (fun p => ?_) hs.ahead hs.up
        have := hs.one p
        simp only [places, h, List.flatMap_cons, List.count_append] at this ⊢
        omega
  split
  · exact hs
  split
  · refine put_whole _ s.row s.tops _ (fun p => ?_) hs.ahead hs.up
    simp only [List.flatMap_cons, List.nil_append, List.append_nil]
    exact hs.one p
  · refine ⟨fun p => ?_, hs.ahead, hs.up, fun h => by simp at h⟩
    have := hs.one p
    simp only [places, List.flatMap_cons, List.nil_append] at this ⊢
    exact this
theorem run_whole (ts : List S30) : ∀ (s s' : St), Whole s → run s ts = .ok s' → Whole s' := by
  induction ts with
  | nil => intro s s' hs h; cases h; exact hs
  | cons t ts ih =>
    intro s s' hs h
    simp only [run] at h
    split at h
    · exact ih _ _ (tok_whole s t hs) h
    · cases h
end Go.Proofs.YthempkdgmobocaaDoorM
end
section
/- The plain law: the lexer's tokens, as the reader needs them; what the reader reads. -/
namespace Go.Proofs.YthempkdgmobocaaDoorRd
open Go Go.Proofs.YthempkdgmobocaaDoorEd Go.Proofs.YthempkdgmobocaaDoorE Go.Proofs.YthempkdgmobocaaDoorX Go.Proofs.YthempkdgmobocaaDoor.L Go.Proofs.YthempkdgmobocaaDoor.N Go.Proofs.YthempkdgmobocaaDoorM
open Go.Proofs.YthempkdgmobocaaDoorW.PrintWords

theorem lexA_len (s : List UInt8) : ∀ (p : Int) (l : List Tok), lexA s p = .ok l → l.length ≤ s.length := by
  induction hn : s.length using Nat.strongRecOn generalizing s with
  | _ n ih =>
  intro p l hl
  subst hn
  cases s with
  | nil => rw [lexA_nil] at hl; cases hl; simp
  | cons c r =>
    have step : ∀ (z : List UInt8) (k : Int) (t : Tok), z.length ≤ r.length → cons t (lexA z k) = .ok l → l.length ≤ (c :: r).length := by
      intro z k t hz h
      cases hx : lexA z k with
      | error e => rw [hx] at h; cases h
      | ok m =>
        rw [hx] at h; cases h
        have := ih z.length (by simp; omega) z rfl k m hx
        simp only [List.length_cons]; omega
    have step0 : ∀ (z : List UInt8) (k : Int), z.length ≤ r.length → lexA z k = .ok l → l.length ≤ (c :: r).length := by
      intro z k hz h
      have := ih z.length (by simp; omega) z rfl k l h
      simp only [List.length_cons]; omega
    rw [lexA_cons] at hl
    split at hl
    · exact step0 _ _ (Nat.le_refl _) hl
    split at hl
    · exact step0 _ _ (dropWhile_le _ _) hl
    split at hl
    · exact step _ _ _ (Nat.le_refl _) hl
    split at hl
    · exact step _ _ _ (Nat.le_refl _) hl
    split at hl
    · exact step _ _ _ (Nat.le_refl _) hl
    split at hl
    · split at hl
      · exact step _ _ _ (tail_le _) hl
      split at hl
      · exact step _ _ _ (tail_le _) hl
      · cases hl
    split at hl
    · split at hl
      · cases hl
      · exact step _ _ _ (dropWhile_le _ _) hl
    · cases hl
theorem lexR_len (x : ByteArray) : (lexR x).1.length ≤ 4000 := by
  unfold lexR
  split
  · simp
  · cases h : lexA x.data.toList 0 with
    | error e => simp [fin]
    | ok l =>
      have := lexA_len _ _ _ h
      simp [fin] at this ⊢
      omega
theorem lexA_err (s : List UInt8) : ∀ (p q e : Int), lexA s p = .error (q, e) → e ≠ 0 ∧ p ≤ q ∧ q ≤ p + s.length := by
  induction hn : s.length using Nat.strongRecOn generalizing s with
  | _ n ih =>
  intro p q e hl
  subst hn
  cases s with
  | nil => rw [lexA_nil] at hl; cases hl
  | cons c r =>
    have step : ∀ (z : List UInt8) (k : Int) (t : Tok), z.length ≤ r.length → p ≤ k → k + z.length ≤ p + 1 + r.length → cons t (lexA z k) = .error (q, e) → e ≠ 0 ∧ p ≤ q ∧ q ≤ p + (c :: r).length := by
      intro z k t hz hk hk2 h
      cases hx : lexA z k with
      | ok m => rw [hx] at h; cases h
      | error y =>
        rw [hx] at h; cases h
        have := ih z.length (by simp; omega) z rfl k q e hx
        simp only [List.length_cons]; omega
    have step0 : ∀ (z : List UInt8) (k : Int), z.length ≤ r.length → p ≤ k → k + z.length ≤ p + 1 + r.length → lexA z k = .error (q, e) → e ≠ 0 ∧ p ≤ q ∧ q ≤ p + (c :: r).length := by
      intro z k hz hk hk2 h
      have := ih z.length (by simp; omega) z rfl k q e h
      simp only [List.length_cons]; omega
    have hd := fun f => take_drop_len f r
    have ht := tail_le r
    rw [lexA_cons] at hl
    split at hl
    · exact step0 _ _ (Nat.le_refl _) (by omega) (by omega) hl
    split at hl
    · exact step0 _ _ (dropWhile_le _ _) (by omega) (by have := hd (· != 10); omega) hl
    split at hl
    · exact step _ _ _ (Nat.le_refl _) (by omega) (by omega) hl
    split at hl
    · exact step _ _ _ (Nat.le_refl _) (by omega) (by omega) hl
    split at hl
    · exact step _ _ _ (Nat.le_refl _) (by omega) (by omega) hl
    split at hl
    · split at hl
      · rename_i h; exact step _ _ _ ht (by omega) (by cases r <;> simp at h ⊢; omega) hl
      split at hl
      · rename_i h; exact step _ _ _ ht (by omega) (by cases r <;> simp at h ⊢; omega) hl
      · cases hl; simp only [List.length_cons]; exact ⟨by decide, by omega, by omega⟩
    split at hl
    · split at hl
      · rename_i e' he
        cases hl
        simp only [List.length_cons]
        exact ⟨one_err _ _ _ he, by omega, by omega⟩
      · exact step _ _ _ (dropWhile_le _ _) (by omega) (by have := hd isLet; omega) hl
    · cases hl; simp only [List.length_cons]; exact ⟨by decide, by omega, by omega⟩

theorem lexA_bounds (s : List UInt8) (p : Int) (l : List Tok) (h : lexA s p = .ok l) : ∀ t ∈ l, p ≤ t.pos ∧ t.pos ≤ p + s.length := by
  intro t ht
  obtain ⟨_, a, w, b, hs, hp, _, _⟩ := (lexA_stands s p l h).1 t ht
  have := congrArg List.length hs
  simp at this
  omega

theorem fin_ok (l : List Tok) : fin [] (.ok l) = (l.map toS, 0, 0) := by simp [fin]
theorem append_list (x y : ByteArray) : (x ++ y).data.toList = x.data.toList ++ y.data.toList := by simp
/-- what a token is. -/
def KindOk (t : Tok) : Prop := (1 ≤ t.kind ∧ t.kind ≤ 6) ∧ (t.kind = 5 → t.n = 0 ∨ t.n = 1)
theorem lexA_kinds (s : List UInt8) : ∀ (p : Int) (l : List Tok), lexA s p = .ok l → ∀ t ∈ l, KindOk t := by
  induction hn : s.length using Nat.strongRecOn generalizing s with
  | _ n ih =>
  intro p l hl
  subst hn
  cases s with
  | nil => rw [lexA_nil] at hl; cases hl; intro t ht; simp at ht
  | cons c r =>
    have step : ∀ (z : List UInt8) (k : Int) (t : Tok), z.length ≤ r.length → KindOk t → cons t (lexA z k) = .ok l → ∀ t ∈ l, KindOk t := by
      intro z k t hz hk h
      cases hx : lexA z k with
      | error e => rw [hx] at h; cases h
      | ok m =>
        rw [hx] at h; cases h
        intro u hu
        rcases List.mem_cons.1 hu with rfl | hu
        · exact hk
        · exact ih z.length (by simp; omega) z rfl k m hx u hu
    have step0 : ∀ (z : List UInt8) (k : Int), z.length ≤ r.length → lexA z k = .ok l → ∀ t ∈ l, KindOk t := by
      intro z k hz h
      exact ih z.length (by simp; omega) z rfl k l h
    rw [lexA_cons] at hl
    split at hl
    · exact step0 _ _ (Nat.le_refl _) hl
    split at hl
    · exact step0 _ _ (dropWhile_le _ _) hl
    split at hl
    · exact step _ _ _ (Nat.le_refl _) (by simp [KindOk]) hl
    split at hl
    · exact step _ _ _ (Nat.le_refl _) (by simp [KindOk]) hl
    split at hl
    · exact step _ _ _ (Nat.le_refl _) (by simp [KindOk]) hl
    split at hl
    · split at hl
      · exact step _ _ _ (tail_le _) (by simp [KindOk]) hl
      split at hl
      · exact step _ _ _ (tail_le _) (by simp [KindOk]) hl
      · cases hl
    split at hl
    · split at hl
      · cases hl
      · rename_i t ht
        refine step _ _ _ (dropWhile_le _ _) ?_ hl
        unfold one at ht
        split at ht <;> split at ht <;> cases ht
        · simp [KindOk]
        · simp [KindOk]
    · cases hl
theorem lexR_kinds (x : ByteArray) : ∀ t ∈ (lexR x).1, 1 ≤ t.f0 ∧ t.f0 ≤ 6 ∧ (t.f0 = 5 → t.f2 = 0 ∨ t.f2 = 1) := by
  unfold lexR
  split
  · simp
  · cases h : lexA x.data.toList 0 with
    | error e => simp [fin]
    | ok l =>
      intro t ht
      rw [fin_ok] at ht
      obtain ⟨u, hu, rfl⟩ := List.mem_map.1 ht
      have := lexA_kinds _ _ _ h u hu
      exact ⟨this.1.1, this.1.2, this.2⟩
/-- the quote that was opened by the last token. -/
theorem run_last (ts : List S30) : ∀ (s s' : St) (t : S30), run s (ts ++ [t]) = .ok s' → t.f0 = 3 → ∃ o os, s'.ops = o :: os ∧ o.p = t.f1 := by
  intro s s' t h h3
  rw [run_append] at h
  cases hs : run s ts with
  | error e => rw [hs] at h; cases h
  | ok s1 =>
    rw [hs] at h
    simp only [run] at h
    split at h
    · cases h
      rename_i h0
      unfold tok at h0 ⊢
      rw [h3] at h0 ⊢
      simp only [show ¬ (3 : Int) = 4 by decide, show ¬ (3 : Int) = 5 by decide, show ¬ (3 : Int) = 6 by decide, show ¬ (3 : Int) = 2 by decide, if_false, if_true] at h0 ⊢
      split
      · rename_i hd; rw [if_pos hd] at h0; simp at h0
      · exact ⟨_, _, rfl, rfl⟩
    · cases h
/-! lists that are open: lists within quotes -/
def IsQ (o : Opn) : Prop := o.q = true ∧ o.l.length = 1
def IsP (o : Opn) : Prop := o.q = false
theorem put_qs (qs : List Opn) : ∀ (row : List S46) (tops : List Int) (x : S46), (∀ o ∈ qs, IsQ o) →
    (put qs row tops x).row.length = row.length + 1 + qs.length ∧ (put qs row tops x).tops.length = tops.length + 1 ∧ (put qs row tops x).ops = [] := by
  induction qs with
  | nil => intro row tops x _; simp [put]
  | cons o os ih =>
    intro row tops x h
    have h0 : o.q = true ∧ o.l.length = 1 := h o (List.mem_cons_self ..)
    simp only [put]
    rw [if_pos h0]
    have := ih (row ++ [x]) tops ⟨4, o.p, 0, noS, o.l ++ [(row.length : Int)]⟩ (fun o' h' => h o' (List.mem_cons_of_mem _ h'))
    simp only [List.length_append, List.length_cons, List.length_nil] at this ⊢
    exact ⟨by omega, by omega, this.2.2⟩
theorem put_ps (o : Opn) (os : List Opn) (row : List S46) (tops : List Int) (x : S46) (h : IsP o) :
    put (o :: os) row tops x = ⟨row ++ [x], tops, ⟨o.p, o.q, o.l ++ [(row.length : Int)]⟩ :: os⟩ := by
  unfold IsP at h
  simp [put, h]
def closes (p : Int) : Nat → List S30
  | 0 => []
  | m + 1 => ⟨2, p, 0, noS⟩ :: closes (p + 1) m
theorem run_closes (qs : List Opn) (hq : ∀ o ∈ qs, IsQ o) (m : Nat) : ∀ (ps : List Opn) (row : List S46) (p : Int), ps.length = m + 1 → (∀ o ∈ ps, IsP o) →
    ∃ s, run ⟨row, [], ps ++ qs⟩ (closes p (m + 1)) = .ok s ∧ s.row.length = row.length + (m + 1) + qs.length ∧ s.tops.length = 1 ∧ s.ops = [] := by
  induction m with
  | zero =>
    intro ps row p hl hp
    match ps, hl with
    | [o], _ =>
      have ho : o.q = false := hp o (List.mem_cons_self ..)
      have := put_qs qs row [] ⟨4, o.p, 0, noS, o.l⟩ hq
      refine ⟨_, ?_, this.1, this.2.1, this.2.2⟩
      simp [closes, run, tok, ho]
  | succ m ih =>
    intro ps row p hl hp
    match ps, hl with
    | o :: o2 :: ps, hl =>
      have ho : o.q = false := hp o (List.mem_cons_self ..)
      have ho2 : IsP o2 := hp o2 (by simp)
      obtain ⟨s, h1, h2, h3, h4⟩ := ih (⟨o2.p, o2.q, o2.l ++ [(row.length : Int)]⟩ :: ps) (row ++ [⟨4, o.p, 0, noS, o.l⟩]) (p + 1) (by simpa using hl)
        (fun o' h' => by
          rcases List.mem_cons.1 h' with rfl | h'
          · exact ho2
          · exact hp o' (by simp [h']))
      refine ⟨s, ?_, by rw [h2]; simp; omega, h3, h4⟩
      rw [← h1]
      have e : closes p (m + 1 + 1) = ⟨2, p, 0, noS⟩ :: closes (p + 1) (m + 1) := rfl
      rw [e]
      have e2 : tok ⟨row, [], o :: o2 :: ps ++ qs⟩ ⟨2, p, 0, noS⟩ = (⟨row ++ [⟨4, o.p, 0, noS, o.l⟩], [], ⟨o2.p, o2.q, o2.l ++ [(row.length : Int)]⟩ :: ps ++ qs⟩, 0) := by
        have := put_ps o2 (ps ++ qs) row [] ⟨4, o.p, 0, noS, o.l⟩ ho2
        simp only [tok, List.cons_append]
        simp [ho, this]
      simp only [run]
      rw [e2, if_pos rfl]
def quotes (p : Int) : Nat → List S30
  | 0 => []
  | m + 1 => ⟨3, p, 0, noS⟩ :: quotes (p + 1) m
def opens (p : Int) : Nat → List S30
  | 0 => []
  | m + 1 => ⟨1, p, 0, noS⟩ :: opens (p + 1) m
/-- k lists are open, the last one from p - 1 on. -/
structure Opened (s : St) (p : Int) (m q : Nat) : Prop where
  tops : s.tops = []
  len : s.row.length = q
  ops : ∃ ps qs, s.ops = ps ++ qs ∧ ps.length = m ∧ qs.length = q ∧ (∀ o ∈ ps, IsP o) ∧ (∀ o ∈ qs, IsQ o)
  at_ : ∀ o os, s.ops = o :: os → o.p = p - 1
theorem opened_nil (p : Int) : Opened ⟨[], [], []⟩ p 0 0 := ⟨rfl, rfl, ⟨[], [], rfl, rfl, rfl, by simp, by simp⟩, fun o os h => by simp at h⟩
theorem opened_quote (s : St) (p : Int) (q : Nat) (h : Opened s p 0 q) (hq : q < 50) : (tok s ⟨3, p, 0, noS⟩).2 = 0 ∧ Opened (tok s ⟨3, p, 0, noS⟩).1 (p + 1) 0 (q + 1) := by
  obtain ⟨ht, hl, ⟨ps, qs, ho, hp, hq', hP, hQ⟩, ha⟩ := h
  obtain rfl := List.eq_nil_of_length_eq_zero hp
  have e : tok s ⟨3, p, 0, noS⟩ = (⟨s.row ++ [⟨3, p, 0, quoteS, []⟩], s.tops, ⟨p, true, [(s.row.length : Int)]⟩ :: s.ops⟩, 0) := by
    have : ¬ 50 ≤ s.ops.length := by rw [ho]; simp; omega
    simp [tok, St.add, put, this]
  rw [e]
  refine ⟨rfl, ht, by simp [hl], ⟨[], ⟨p, true, [(s.row.length : Int)]⟩ :: qs, by simp [ho], rfl, by simp [hq'], by simp, ?_⟩, ?_⟩
  · intro o h'
    rcases List.mem_cons.1 h' with rfl | h'
    · exact ⟨rfl, rfl⟩
    · exact hQ o h'
  · intro o os h'
    injection h' with h1 h2
    rw [← h1]; simp
theorem opened_open (s : St) (p : Int) (m q : Nat) (h : Opened s p m q) (hq : m + q < 50) : (tok s ⟨1, p, 0, noS⟩).2 = 0 ∧ Opened (tok s ⟨1, p, 0, noS⟩).1 (p + 1) (m + 1) q := by
  obtain ⟨ht, hl, ⟨ps, qs, ho, hp, hq', hP, hQ⟩, ha⟩ := h
  have e : tok s ⟨1, p, 0, noS⟩ = (⟨s.row, s.tops, ⟨p, false, []⟩ :: s.ops⟩, 0) := by
    have : ¬ 50 ≤ s.ops.length := by rw [ho]; simp; omega
    simp [tok, this]
  rw [e]
  refine ⟨rfl, ht, hl, ⟨⟨p, false, []⟩ :: ps, qs, by simp [ho], by simp [hp], hq', ?_, hQ⟩, ?_⟩
  · intro o h'
    rcases List.mem_cons.1 h' with rfl | h'
    · rfl
    · exact hP o h'
  · intro o os h'
    injection h' with h1 h2
    rw [← h1]; simp
theorem opened_full (s : St) (p : Int) (m q : Nat) (h : Opened s p m q) (hq : m + q = 50) (k : Int) (hk : k = 1 ∨ k = 3) : (tok s ⟨k, p, 0, noS⟩).2 = 62 := by
  obtain ⟨ht, hl, ⟨ps, qs, ho, hp, hq', hP, hQ⟩, ha⟩ := h
  have : 50 ≤ s.ops.length := by rw [ho]; simp; omega
  rcases hk with rfl | rfl <;> simp [tok, this]
theorem run_quotes (n : Nat) : ∀ (s : St) (p : Int) (q : Nat) (rest : List S30), Opened s p 0 q →
    if q + n ≤ 50 then ∃ s', run s (quotes p n ++ rest) = run s' rest ∧ Opened s' (p + n) 0 (q + n) else q ≤ 50 → run s (quotes p n ++ rest) = .error (p + 50 - q, 62) := by
  induction n with
  | zero =>
    intro s p q rest h
    split
    · exact ⟨s, rfl, by simpa using h⟩
    · intro hq; omega
  | succ n ih =>
    intro s p q rest h
    have e : quotes p (n + 1) ++ rest = ⟨3, p, 0, noS⟩ :: (quotes (p + 1) n ++ rest) := rfl
    rw [e]
    simp only [run]
    by_cases hq : q < 50
    · obtain ⟨h1, h2⟩ := opened_quote s p q h hq
      rw [if_pos h1]
      have := ih _ (p + 1) (q + 1) rest h2
      split
      · rw [if_pos (by omega)] at this
        obtain ⟨s', h3, h4⟩ := this
        refine ⟨s', h3, ?_⟩
        have e1 : p + ((n + 1 : Nat) : Int) = p + 1 + n := by omega
        have e2 : q + (n + 1) = q + 1 + n := by omega
        rw [e1, e2]; exact h4
      · rw [if_neg (by omega)] at this
        intro _
        rw [this (by omega)]
        congr 2; omega
    · rw [if_neg (by omega)]
      intro h50
      have h0 := opened_full s p 0 q h (by omega) 3 (.inr rfl)
      rw [if_neg (by rw [h0]; decide), h0]
      congr 2; omega
theorem run_opens (n : Nat) : ∀ (s : St) (p : Int) (m q : Nat) (rest : List S30), Opened s p m q →
    if m + q + n ≤ 50 then ∃ s', run s (opens p n ++ rest) = run s' rest ∧ Opened s' (p + n) (m + n) q else m + q ≤ 50 → run s (opens p n ++ rest) = .error (p + 50 - (m + q), 62) := by
  induction n with
  | zero =>
    intro s p m q rest h
    split
    · exact ⟨s, rfl, by simpa using h⟩
    · intro hq; omega
  | succ n ih =>
    intro s p m q rest h
    have e : opens p (n + 1) ++ rest = ⟨1, p, 0, noS⟩ :: (opens (p + 1) n ++ rest) := rfl
    rw [e]
    simp only [run]
    by_cases hq : m + q < 50
    · obtain ⟨h1, h2⟩ := opened_open s p m q h hq
      rw [if_pos h1]
      have := ih _ (p + 1) (m + 1) q rest h2
      split
      · rw [if_pos (by omega)] at this
        obtain ⟨s', h3, h4⟩ := this
        refine ⟨s', h3, ?_⟩
        have e1 : p + ((n + 1 : Nat) : Int) = p + 1 + n := by omega
        have e2 : m + (n + 1) = m + 1 + n := by omega
        rw [e1, e2]; exact h4
      · rw [if_neg (by omega)] at this
        intro _
        rw [this (by omega)]
        congr 2; omega
    · rw [if_neg (by omega)]
      intro h50
      have h0 := opened_full s p m q h (by omega) 1 (.inl rfl)
      rw [if_neg (by rw [h0]; decide), h0]
      congr 2; omega
/-- a name within m lists within q quotes, and the lists closed. -/
theorem run_within (s : St) (p : Int) (m q : Nat) (h : Opened s p m q) (nm : ByteArray) :
    ∃ s', run s (⟨6, p, 0, nm⟩ :: closes (p + 1) m) = .ok s' ∧ s'.row.length = 1 + (m + q) + q ∧ s'.tops.length = 1 ∧ s'.ops = [] := by
  obtain ⟨ht, hl, ⟨ps, qs, ho, hp, hq', hP, hQ⟩, ha⟩ := h
  cases m with
  | zero =>
    obtain rfl := List.eq_nil_of_length_eq_zero hp
    have := put_qs qs s.row s.tops ⟨3, p, 0, nm, []⟩ hQ
    refine ⟨_, rfl, ?_, ?_, ?_⟩
    · show (put s.ops s.row s.tops ⟨3, p, 0, nm, []⟩).row.length = _
      rw [ho, List.nil_append, this.1]; omega
    · show (put s.ops s.row s.tops ⟨3, p, 0, nm, []⟩).tops.length = _
      rw [ho, List.nil_append, this.2.1, ht]; rfl
    · show (put s.ops s.row s.tops ⟨3, p, 0, nm, []⟩).ops = _
      rw [ho, List.nil_append, this.2.2]
  | succ m =>
    match ps, hp with
    | o :: ps, hp =>
      have ho1 : IsP o := hP o (List.mem_cons_self ..)
      obtain ⟨s', h1, h2, h3, h4⟩ := run_closes qs hQ m (⟨o.p, o.q, o.l ++ [(s.row.length : Int)]⟩ :: ps) (s.row ++ [⟨3, p, 0, nm, []⟩]) (p + 1) (by simpa using hp)
        (fun o' h' => by
          rcases List.mem_cons.1 h' with rfl | h'
          · exact ho1
          · exact hP o' (by simp [h']))
      refine ⟨s', ?_, by rw [h2]; simp; omega, h3, h4⟩
      rw [← h1]
      simp only [run]
      have e : tok s ⟨6, p, 0, nm⟩ = (⟨s.row ++ [⟨3, p, 0, nm, []⟩], [], ⟨o.p, o.q, o.l ++ [(s.row.length : Int)]⟩ :: ps ++ qs⟩, 0) := by
        have := put_ps o (ps ++ qs) s.row s.tops ⟨3, p, 0, nm, []⟩ ho1
        show (put s.ops s.row s.tops ⟨3, p, 0, nm, []⟩, (0 : Int)) = _
        rw [ho, List.cons_append, this, ht]; rfl
      rw [e, if_pos rfl]
/-! May -/
def okN (x : S46) : Bool := decide (0 ≤ x.f1) && (
  if x.f0 = 1 then decide (x.f3.size = 0) && decide (x.f4.length = 0)
  else if x.f0 = 2 then decide (x.f3.size = 0) && decide (x.f4.length = 0) && (decide (x.f2 = 0) || decide (x.f2 = 1))
  else if x.f0 = 3 then decide (x.f4.length = 0) && decide (x.f2 = 0)
  else if x.f0 = 4 then decide (x.f3.size = 0) && decide (x.f2 = 0)
  else false)
def takes (i : Int) : List Int → List Int → Option (List Int)
  | seen, [] => some seen
  | seen, p :: ps => if p < 0 ∨ i ≤ p ∨ p ∈ seen then none else takes i (p :: seen) ps
def mayGo : Int → List Int → List S46 → Bool
  | _, _, [] => true
  | i, seen, x :: xs => okN x && (match takes i seen x.f4 with | none => false | some seen' => mayGo (i + 1) seen' xs)
def mayB (l : List S46) : Bool := mayGo 0 [] l
theorem takes_some (i : Int) (ps : List Int) : ∀ seen, (∀ p ∈ ps, 0 ≤ p ∧ p < i) → ps.Nodup → (∀ p ∈ ps, p ∉ seen) → takes i seen ps = some (ps.reverse ++ seen) := by
  induction ps with
  | nil => intro seen _ _ _; rfl
  | cons p ps ih =>
    intro seen h1 h2 h3
    have hp := h1 p (List.mem_cons_self ..)
    have hs := h3 p (List.mem_cons_self ..)
    simp only [takes]
    rw [if_neg (by rintro (h | h | h); omega; omega; exact hs h)]
    rw [List.nodup_cons] at h2
    rw [ih (p :: seen) (fun q hq => h1 q (List.mem_cons_of_mem _ hq)) h2.2 (fun q hq => by
      rw [List.mem_cons]
      rintro (rfl | h)
      · exact h2.1 hq
      · exact h3 q (List.mem_cons_of_mem _ hq) h)]
    simp
theorem mayGo_true (xs : List S46) : ∀ (i : Nat) (seen : List Int), (∀ x ∈ xs, okN x = true) → (∀ (j : Nat) (x : S46), xs[j]? = some x → ∀ p ∈ x.f4, 0 ≤ p ∧ p < ((i + j : Nat) : Int)) → (xs.flatMap (·.f4)).Nodup → (∀ p ∈ xs.flatMap (·.f4), p ∉ seen) → mayGo i seen xs = true := by
  induction xs with
  | nil => intro i seen _ _ _ _; rfl
  | cons x xs ih =>
    intro i seen h1 h2 h3 h4
    rw [List.flatMap_cons, List.nodup_append] at h3
    simp only [mayGo, h1 x (List.mem_cons_self ..), Bool.true_and]
    rw [takes_some (i : Int) x.f4 seen (fun p hp => h2 0 x rfl p hp) h3.1 (fun p hp => h4 p (by simp [hp]))]
    have := ih (i + 1) (x.f4.reverse ++ seen) (fun y hy => h1 y (List.mem_cons_of_mem _ hy)) (fun j y hy p hp => by
      have := h2 (j + 1) y (by simpa using hy) p hp
      omega) h3.2.1 (fun p hp => by
      rw [List.mem_append, List.mem_reverse]
      rintro (h | h)
      · exact h3.2.2 p h p hp rfl
      · exact h4 p (by rw [List.flatMap_cons]; exact List.mem_append_right _ hp) h)
    exact this
theorem whole_may (s : St) (h : Whole s) (hk : ∀ x ∈ s.row, okN x = true) : mayB s.row = true := by
  refine mayGo_true s.row 0 [] hk (fun j x hx p hp => by have := h.ahead j x hx p hp; omega) ?_ (fun p _ h => by simp at h)
  rw [List.nodup_iff_count]
  intro a
  have h1 := h.one a
  simp only [places, List.count_append] at h1
  split at h1 <;> omega
end Go.Proofs.YthempkdgmobocaaDoorRd
end
