/- Texts of this claim, one behind the other: E1, M1, M2, M3, E2, E3, E4, E5, E6, X1, E0. -/
import Derived.Test.YthempkdgmobocaaDoorSh
import Derived.WalkKit
import Derived.ProofKit
import Derived.Below
import Derived.OwnWalk
import Derived.Deep.QuietTactic
import Derived.BigQuiet
import Derived.Laws.RangeAny
import Derived.Laws.Runes
import Derived.Lib.Hide
import Derived.IntWalk
import Derived.Lib.IndexLaws
import Derived.RegionTactic
import Derived.Lib.AtoiTie
section
/- The library's IndexRune and ContainsRune at a rune beyond ASCII, in a text of ASCII bytes: there is none. -/
namespace Go.Proofs.YthempkdgmobocaaDoorE
open Go Go.RowKit

theorem low_byte (n : Nat) (h : 128 ≤ n) (h2 : n < 256) : 128 ≤ (UInt8.ofNat n).toNat := by
  rw [UInt8.toNat_ofNat']; omega
theorem encode_high (r : Int) (h : 128 ≤ r) : ∃ e : ByteArray, Utf8.encode r = e ∧ 2 ≤ e.size ∧ e.size ≤ 4 ∧ ∀ i (hi : i < e.size), i + 1 = e.size → 128 ≤ (e[i]'hi).toNat := by
  refine ⟨_, rfl, ?_⟩
  generalize he : Utf8.encode r = e
  unfold Utf8.encode at he
  generalize hc : (if Utf8.valid r = true then r.toNat else Utf8.runeError) = c at he
  have hc2 : 128 ≤ c := by
    subst hc
    split
    · omega
    · decide
  simp only [] at he
  rw [if_neg (by omega)] at he
  split at he
  · subst he
    refine ⟨by show 2 ≤ 2; omega, by show 2 ≤ 4; omega, fun i hi e => ?_⟩
    obtain rfl : i = 1 := by have : i + 1 = 2 := e; omega
    exact low_byte (0x80 + c % 64) (by omega) (by omega)
  split at he
  · subst he
    refine ⟨by show 2 ≤ 3; omega, by show 3 ≤ 4; omega, fun i hi e => ?_⟩
    obtain rfl : i = 2 := by have : i + 1 = 3 := e; omega
    exact low_byte (0x80 + c % 64) (by omega) (by omega)
  · subst he
    refine ⟨by show 2 ≤ 4; omega, by show 4 ≤ 4; omega, fun i hi e => ?_⟩
    obtain rfl : i = 3 := by have : i + 1 = 4 := e; omega
    exact low_byte (0x80 + c % 64) (by omega) (by omega)

set_option maxHeartbeats 2000000 in
set_option maxRecDepth 100000 in
theorem indexRune_err (s : ByteArray) (ha : ∀ i (hi : i < s.size), (s[i]'hi).toNat < 128) (w : World) :
    Calls Tryd.prog 71 #[.string s, .int .i32 65533] w fun e w' => e = .returned (.int .i64 (-1)) ∧ Below w.heap.size w w' := by
  go_enter Tryd.func71, Tryd.ntmps71
  go_wp2
  go_loopw [4] (fun n w' => ∃ pos : Nat, w' = w.iter s pos) (fun _ w' => s.size - w'.iterPos w.heap.size)
  case atStart => exact ⟨0, rfl⟩
  case round =>
    obtain ⟨pos, rfl⟩ := hrel
    by_cases hp : pos < s.size
    · have hd := decode_ascii s pos hp (ha pos hp)
      have hnx : ∀ ty, (Instr.next (.pointer (some ⟨w.heap.size, 0, none⟩)) true ty).run Tryd.prog (w.iter s pos) = _ := fun ty => run_next_ascii w s pos ty hp (ha pos hp)
      have hlt := ha pos hp
      have hne : (((s[pos]'hp).toNat : Int) == 65533) = false := by rw [beq_eq_false_iff_ne]; omega
      go_wp2
      go_roundw
      case rel => exact ⟨pos + 1, rfl⟩
      case measure => simp; omega
    · have hnx : ∀ ty, (Instr.next (.pointer (some ⟨w.heap.size, 0, none⟩)) true ty).run Tryd.prog (w.iter s pos) = _ := fun ty => run_next_end w s pos ty hp
      go_wp2
      go_ret
      exact ⟨rfl, (Below.refl _ _).alloc (Nat.le_refl _) _⟩

theorem _root_.Go.RowKit.Below.drewN' {B : Nat} {w w1 : World} (h : Below B w w1) (n : Nat) : Below B w (w1.drewN n) := by
  induction n generalizing w1 with
  | zero => exact h
  | succ n ih => rw [← World.drew_drewN]; exact (ih h).drew
theorem indexByte_none (l : List UInt8) (c : UInt8) (h : ∀ x ∈ l, x.toNat < 128) (hc : 128 ≤ c.toNat) : Lib.indexByte l c = -1 := by
  induction l with
  | nil => rfl
  | cons b l ih =>
    have hb := h b (List.mem_cons_self ..)
    have hne : (b == c) = false := by rw [beq_eq_false_iff_ne]; rintro rfl; omega
    have := ih fun x hx => h x (List.mem_cons_of_mem _ hx)
    simp [Lib.indexByte, hne, this]
theorem below_drewN' (w : World) (n : Nat) : Below w.heap.size w (w.drewN n) := by
  induction n with
  | zero => exact Below.refl _ _
  | succ n ih => rw [← World.drew_drewN]; exact ih.drew

set_option maxHeartbeats 2000000 in
set_option maxRecDepth 100000 in
theorem indexRune_high (s : ByteArray) (h4 : 4 ≤ s.size) (hs : s.size ≤ 1000) (ha : ∀ i (hi : i < s.size), (s[i]'hi).toNat < 128) (r : Int) (h0 : 128 ≤ r) (h1 : r ≤ 1114111) (hr : r ≠ 65533) (w : World) :
    Calls Tryd.prog 71 #[.string s, .int .i32 r] w fun e w' => e = .returned (.int .i64 (-1)) ∧ Below w.heap.size w w' := by
  obtain ⟨e, he, e2, e4, eh⟩ := encode_high r h0
  have b1 : decide (r < 128) = false := decide_eq_false (by omega)
  have b2 : (r == 65533) = false := by rw [beq_eq_false_iff_ne]; exact hr
  have u21 : (Tryd.prog.underlying 21).isSome = true := by rw [Tryd.underlying21]; rfl
  have u9 := Tryd.underlying9
  have i1 : (1 : Int) ≤ (e.size : Int) := by omega
  have i2 : (e.size : Int) - 1 < (s.size : Int) := by omega
  have i3 : (e.size : Int) - 1 < (e.size : Int) := by omega
  have i4 : ((e.size : Int) - 1).toNat = e.size - 1 := by omega
  have i5 : e.size - 1 < s.size := by omega
  have i6 : e.size - 1 < e.size := by omega
  have i7 : ((s[e.size - 1].toNat : Int) != (e[e.size - 1].toNat : Int)) = true := by
    have := ha (e.size - 1) i5
    have := eh (e.size - 1) i6 (by omega)
    rw [bne_iff_ne]; omega
  have i8 : IntKind.i64.wrap ((e.size : Int) - 1 + 1) = (e.size : Int) := by rw [IntWalk.i64_in _ (by omega)]; omega
  have i9 : (e.size : Int) ≤ (s.size : Int) := by omega
  have i10 : (0 : Int) ≤ (e.size : Int) := by omega
  have i11 : e.size ≤ s.size := by omega
  have i12 : Lib.indexByte (List.take (s.size - e.size) (List.drop e.size s.data.toList)) e[e.size - 1] < 0 := by
    rw [indexByte_none]
    · omega
    · intro x hx
      have := List.mem_of_mem_drop (List.mem_of_mem_take hx)
      obtain ⟨i, hi, rfl⟩ := List.getElem_of_mem this
      exact ha i (by simpa using hi)
    · exact eh _ i6 (by omega)
  clear hr
  cases hv : Lib.validRune r with
  | true =>
    go_enter Tryd.func71, Tryd.ntmps71
    go_wp2_with (first | (go_at_call 81; refine (Tryd.utf8_ValidRune _ _).mono ?_; rintro e w' ⟨rfl, hw⟩; rw [hw]))
    go_step3
    go_wp2
    refine wp_loop_rounds 1 ?_
    rw [rounds_succ]
    go_wp2
    go_step3
    go_wp2
    go_quiet (fail)
    generalize hq : w.drewN nq = w1
    have HB := below_drewN' w nq
    rw [hq] at HB
    clear hq
    go_wp2
    go_quiet ((go_at_call 43; exact Calls.quiet_of_same (Tryd.strings_IndexByte _ _ _)))
    go_wp2
    rw [Exit.noGoto_ret]
    go_wp2
    try rw [Exit.noGoto_ret]
    go_ret
    exact ⟨rfl, HB.drewN' _⟩
  | false =>
    go_enter Tryd.func71, Tryd.ntmps71
    go_wp2_with (first | (go_at_call 81; refine (Tryd.utf8_ValidRune _ _).mono ?_; rintro e w' ⟨rfl, hw⟩; rw [hw]))
    go_ret
    exact ⟨rfl, Below.refl _ _⟩
end Go.Proofs.YthempkdgmobocaaDoorE
end
section
namespace Go.Proofs.YthempkdgmobocaaDoorEd
/-! The plain law of the lexer, over lists of bytes. -/
structure Tok where
  kind : Int
  pos : Int
  n : Int
  s : List UInt8
  deriving DecidableEq, Repr

def isBlank (c : UInt8) : Bool := c == 32 || c == 9 || c == 10
def isDig (c : UInt8) : Bool := 48 ≤ c && c ≤ 57
def isLet (c : UInt8) : Bool :=
  (97 ≤ c && c ≤ 122) || (65 ≤ c && c ≤ 90) || isDig c ||
  c == 33 || c == 36 || c == 37 || c == 38 || c == 42 || c == 43 || c == 45 || c == 47 ||
  c == 58 || c == 60 || c == 61 || c == 62 || c == 63 || c == 94 || c == 95 || c == 126

def isNum (w : List UInt8) : Bool :=
  match w with
  | 45 :: r => !r.isEmpty && r.all isDig
  | w => !w.isEmpty && w.all isDig

def val0 (w : List UInt8) : Int := w.foldl (fun n c => n * 10 + ((c.toNat : Int) - 48)) 0
def val (w : List UInt8) : Int :=
  match w with
  | 45 :: r => - val0 r
  | w => val0 w

abbrev Res := Except (Int × Int) (List Tok)

def one (w : List UInt8) (p : Int) : Except Int Tok :=
  if isNum w then
    if w.length > 13 ∨ val w ≤ -1099511627776 ∨ val w ≥ 1099511627776 then .error 51
    else .ok ⟨4, p, val w, []⟩
  else if w.length > 32 then .error 3
  else .ok ⟨6, p, 0, w⟩

def cons (t : Tok) : Res → Res
  | .ok l => .ok (t :: l)
  | .error e => .error e

def lexF : Nat → List UInt8 → Int → Res
  | 0, _, _ => .ok []
  | _ + 1, [], _ => .ok []
  | f + 1, c :: r, p =>
    if isBlank c then lexF f r (p + 1)
    else if c == 59 then lexF f (r.dropWhile (· != 10)) (p + 1 + (r.takeWhile (· != 10)).length)
    else if c == 40 then cons ⟨1, p, 0, []⟩ (lexF f r (p + 1))
    else if c == 41 then cons ⟨2, p, 0, []⟩ (lexF f r (p + 1))
    else if c == 39 then cons ⟨3, p, 0, []⟩ (lexF f r (p + 1))
    else if c == 35 then
      if r.takeWhile isLet = [116] then cons ⟨5, p, 1, []⟩ (lexF f r.tail (p + 2))
      else if r.takeWhile isLet = [102] then cons ⟨5, p, 0, []⟩ (lexF f r.tail (p + 2))
      else .error (p, 50)
    else if isLet c then
      match one (c :: r.takeWhile isLet) p with
      | .error e => .error (p, e)
      | .ok t => cons t (lexF f (r.dropWhile isLet) (p + 1 + (r.takeWhile isLet).length))
    else .error (p, 50)

theorem lexF_nil (f : Nat) (p : Int) : lexF f [] p = .ok [] := by cases f <;> rfl

theorem dropWhile_le {α} (q : α → Bool) (l : List α) : (l.dropWhile q).length ≤ l.length := by
  induction l with
  | nil => simp
  | cons a l ih => simp only [List.dropWhile]; split <;> simp <;> omega
theorem tail_le {α} (l : List α) : l.tail.length ≤ l.length := by simp

theorem lexF_more (l : List UInt8) : ∀ (f g : Nat) (p : Int), l.length ≤ f → l.length ≤ g → lexF f l p = lexF g l p := by
  induction hn : l.length using Nat.strongRecOn generalizing l with
  | _ n ih =>
  intro f g p hf hg
  cases l with
  | nil => rw [lexF_nil, lexF_nil]
  | cons c r =>
    simp only [List.length_cons] at hn
    obtain ⟨f, rfl⟩ : ∃ m, f = m + 1 := ⟨f - 1, by omega⟩
    obtain ⟨g, rfl⟩ : ∃ m, g = m + 1 := ⟨g - 1, by omega⟩
    have h1 := fun q => ih r.length (by omega) r rfl f g q (by omega) (by omega)
    have h2 := fun q => ih (r.dropWhile (· != 10)).length (by have := dropWhile_le (· != 10) r; omega) _ rfl f g q (by have := dropWhile_le (· != 10) r; omega) (by have := dropWhile_le (· != 10) r; omega)
    have h3 := fun q => ih (r.dropWhile isLet).length (by have := dropWhile_le isLet r; omega) _ rfl f g q (by have := dropWhile_le isLet r; omega) (by have := dropWhile_le isLet r; omega)
    have h4 := fun q => ih r.tail.length (by have := tail_le r; omega) _ rfl f g q (by have := tail_le r; omega) (by have := tail_le r; omega)
    simp only [lexF, h1, h2, h3, h4]

def lexA (l : List UInt8) (p : Int) : Res := lexF l.length l p
theorem lexA_of (l : List UInt8) (f : Nat) (p : Int) (h : l.length ≤ f) : lexF f l p = lexA l p := lexF_more l _ _ _ h (Nat.le_refl _)
theorem lexA_nil (p : Int) : lexA [] p = .ok [] := rfl
theorem lexA_cons (c : UInt8) (r : List UInt8) (p : Int) : lexA (c :: r) p =
    if isBlank c then lexA r (p + 1)
    else if c == 59 then lexA (r.dropWhile (· != 10)) (p + 1 + (r.takeWhile (· != 10)).length)
    else if c == 40 then cons ⟨1, p, 0, []⟩ (lexA r (p + 1))
    else if c == 41 then cons ⟨2, p, 0, []⟩ (lexA r (p + 1))
    else if c == 39 then cons ⟨3, p, 0, []⟩ (lexA r (p + 1))
    else if c == 35 then
      if r.takeWhile isLet = [116] then cons ⟨5, p, 1, []⟩ (lexA r.tail (p + 2))
      else if r.takeWhile isLet = [102] then cons ⟨5, p, 0, []⟩ (lexA r.tail (p + 2))
      else .error (p, 50)
    else if isLet c then
      match one (c :: r.takeWhile isLet) p with
      | .error e => .error (p, e)
      | .ok t => cons t (lexA (r.dropWhile isLet) (p + 1 + (r.takeWhile isLet).length))
    else .error (p, 50) := by
  have h2 := fun q => lexA_of (r.dropWhile (· != 10)) r.length q (dropWhile_le _ r)
  have h3 := fun q => lexA_of (r.dropWhile isLet) r.length q (dropWhile_le _ r)
  have h4 := fun q => lexA_of r.tail r.length q (tail_le r)
  have h1 := fun q => lexA_of r r.length q (Nat.le_refl _)
  show lexF (r.length + 1) (c :: r) p = _
  simp only [lexF, h1, h2, h3, h4]

/-- a text behind another, with a newline between. -/
def then_ (x : Res) (y : Res) : Res :=
  match x with
  | .error e => .error e
  | .ok a => match y with
    | .error e => .error e
    | .ok b => .ok (a ++ b)
theorem then_ok_nil (y : Res) : then_ (.ok []) y = y := by cases y <;> rfl
theorem cons_then (t : Tok) (x y : Res) : then_ (cons t x) y = cons t (then_ x y) := by
  cases x <;> cases y <;> rfl

theorem takeWhile_stop {α} (q : α → Bool) (a : List α) (c : α) (b : List α) (h : q c = false) :
    (a ++ c :: b).takeWhile q = a.takeWhile q := by
  induction a with
  | nil => simp [h]
  | cons x a ih => simp only [List.cons_append, List.takeWhile]; split <;> simp [ih]
theorem dropWhile_stop {α} (q : α → Bool) (a : List α) (c : α) (b : List α) (h : q c = false) :
    (a ++ c :: b).dropWhile q = a.dropWhile q ++ c :: b := by
  induction a with
  | nil => simp [h]
  | cons x a ih => simp only [List.cons_append, List.dropWhile]; split <;> simp [ih]
theorem take_drop_len {α} (q : α → Bool) (a : List α) : (a.takeWhile q).length + (a.dropWhile q).length = a.length := by
  induction a with
  | nil => simp
  | cons x a ih => simp only [List.takeWhile, List.dropWhile]; split <;> simp <;> omega

theorem lexA_join (s t : List UInt8) : ∀ (p : Int), lexA (s ++ 10 :: t) p = then_ (lexA s p) (lexA t (p + s.length + 1)) := by
  induction hn : s.length using Nat.strongRecOn generalizing s with
  | _ n ih =>
  intro p
  subst hn
  cases s with
  | nil =>
    rw [lexA_nil, then_ok_nil, List.nil_append, lexA_cons, if_pos (by decide)]
    simp
  | cons c r =>
    rw [List.cons_append, lexA_cons, lexA_cons c r]
    have h1 : ∀ q, lexA (r ++ 10 :: t) (q + 1) = then_ (lexA r (q + 1)) (lexA t (q + (c :: r).length + 1)) := by
      intro q
      rw [ih r.length (by simp) r rfl]
      simp only [List.length_cons]
      rw [show q + 1 + (r.length : Int) + 1 = q + ((r.length + 1 : Nat) : Int) + 1 by omega]
    have h2 : ∀ (f : UInt8 → Bool) q, lexA (r.dropWhile f ++ 10 :: t) (q + 1 + (r.takeWhile f).length) = then_ (lexA (r.dropWhile f) (q + 1 + (r.takeWhile f).length)) (lexA t (q + (c :: r).length + 1)) := by
      intro f q
      have hl := take_drop_len f r
      rw [ih (r.dropWhile f).length (by simp; omega) _ rfl]
      simp only [List.length_cons]
      rw [show q + 1 + ((r.takeWhile f).length : Int) + ((r.dropWhile f).length : Int) + 1 = q + ((r.length + 1 : Nat) : Int) + 1 by omega]
    have h4 : ∀ q, r ≠ [] → lexA ((r ++ 10 :: t).tail) (q + 2) = then_ (lexA r.tail (q + 2)) (lexA t (q + (c :: r).length + 1)) := by
      intro q hr
      cases r with
      | nil => exact absurd rfl hr
      | cons d r =>
        rw [List.cons_append, List.tail_cons, ih r.length (by simp; omega) r rfl]
        simp only [List.length_cons, List.tail_cons]
        rw [show q + 2 + (r.length : Int) + 1 = q + ((r.length + 1 + 1 : Nat) : Int) + 1 by omega]
    rw [takeWhile_stop (· != 10) r 10 t (by decide), dropWhile_stop (· != 10) r 10 t (by decide), takeWhile_stop isLet r 10 t (by decide), dropWhile_stop isLet r 10 t (by decide), h1 p, h2 isLet p]
    split
    · rfl
    · split
      · exact h2 (· != 10) p
      · split
        · rw [cons_then]
        · split
          · rw [cons_then]
          · split
            · rw [cons_then]
            · split
              · split
                · rename_i h
                  rw [h4 p (by rintro rfl; simp at h), cons_then]
                · split
                  · rename_i h
                    rw [h4 p (by rintro rfl; simp at h), cons_then]
                  · rfl
              · split
                · cases one (c :: r.takeWhile isLet) p with
                  | error e => rfl
                  | ok t => simp only []; rw [cons_then]
                · rfl

/-- a text's tokens, moved. -/
def mv (k : Int) (t : Tok) : Tok := { t with pos := t.pos + k }
def move (k : Int) : Res → Res
  | .ok l => .ok (l.map (mv k))
  | .error (p, e) => .error (p + k, e)
theorem move_cons (k : Int) (t : Tok) (x : Res) : move k (cons t x) = cons (mv k t) (move k x) := by cases x <;> rfl
theorem one_mv (w : List UInt8) (p k : Int) : one w (p + k) = (match one w p with | .error e => .error e | .ok t => .ok (mv k t)) := by
  unfold one
  split
  · split <;> rfl
  · split <;> rfl
theorem lexA_move (s : List UInt8) : ∀ (p k : Int), lexA s (p + k) = move k (lexA s p) := by
  induction hn : s.length using Nat.strongRecOn generalizing s with
  | _ n ih =>
  intro p k
  subst hn
  cases s with
  | nil => rfl
  | cons c r =>
    rw [lexA_cons, lexA_cons]
    have h1 : lexA r (p + k + 1) = move k (lexA r (p + 1)) := by rw [← ih r.length (by simp) r rfl]; congr 1; omega
    have h2 : ∀ f : UInt8 → Bool, lexA (r.dropWhile f) (p + k + 1 + (r.takeWhile f).length) = move k (lexA (r.dropWhile f) (p + 1 + (r.takeWhile f).length)) := by
      intro f
      have hl := take_drop_len f r
      rw [← ih _ (by simp; omega) _ rfl]; congr 1; omega
    have h4 : lexA r.tail (p + k + 2) = move k (lexA r.tail (p + 2)) := by rw [← ih _ (by simp; omega) _ rfl]; congr 1; omega
    rw [h1, h2, h2, h4, one_mv]
    split
    · rfl
    · split
      · rfl
      · split
        · rw [move_cons]; rfl
        · split
          · rw [move_cons]; rfl
          · split
            · rw [move_cons]; rfl
            · split
              · split
                · rw [move_cons]; rfl
                · split
                  · rw [move_cons]; rfl
                  · rfl
              · split
                · cases one (c :: r.takeWhile isLet) p with
                  | error e => rfl
                  | ok t => simp only []; rw [move_cons]
                · rfl
end Go.Proofs.YthempkdgmobocaaDoorEd
end
section
namespace Go.Proofs.YthempkdgmobocaaDoorEd
theorem dropWhile_all {α} (q : α → Bool) (a : List α) (h : ∀ x ∈ a, q x = true) : a.dropWhile q = [] := by
  induction a with
  | nil => rfl
  | cons x a ih => simp only [List.dropWhile, h x (List.mem_cons_self ..)]; exact ih fun y hy => h y (List.mem_cons_of_mem _ hy)
theorem takeWhile_all {α} (q : α → Bool) (a : List α) (h : ∀ x ∈ a, q x = true) : a.takeWhile q = a := by
  induction a with
  | nil => rfl
  | cons x a ih => simp only [List.takeWhile, h x (List.mem_cons_self ..)]; rw [ih fun y hy => h y (List.mem_cons_of_mem _ hy)]
theorem takeWhile_split {α} (q : α → Bool) (a : List α) : a.takeWhile q ++ a.dropWhile q = a := List.takeWhile_append_dropWhile

/-! ### Where tokens stand -/
theorem lexA_pos (s : List UInt8) : ∀ (p : Int) (l : List Tok), lexA s p = .ok l → ∀ t ∈ l, p ≤ t.pos := by
  induction hn : s.length using Nat.strongRecOn generalizing s with
  | _ n ih =>
  intro p l hl
  subst hn
  cases s with
  | nil => rw [lexA_nil] at hl; cases hl; simp
  | cons c r =>
    have step : ∀ (z : List UInt8) (k : Int) (t : Tok), z.length ≤ r.length → p ≤ k → p ≤ t.pos → cons t (lexA z k) = .ok l → ∀ u ∈ l, p ≤ u.pos := by
      intro z k t hz hk ht h
      cases hx : lexA z k with
      | error e => rw [hx] at h; cases h
      | ok m =>
        rw [hx] at h; cases h
        intro u hu
        rcases List.mem_cons.1 hu with rfl | hu
        · exact ht
        · have := ih z.length (by simp; omega) z rfl k m hx u hu
          omega
    have step0 : ∀ (z : List UInt8) (k : Int), z.length ≤ r.length → p ≤ k → lexA z k = .ok l → ∀ u ∈ l, p ≤ u.pos := by
      intro z k hz hk h u hu
      have := ih z.length (by simp; omega) z rfl k l h u hu
      omega
    rw [lexA_cons] at hl
    split at hl
    · exact step0 _ _ (Nat.le_refl _) (by omega) hl
    split at hl
    · exact step0 _ _ (dropWhile_le _ _) (by omega) hl
    split at hl
    · exact step _ _ _ (Nat.le_refl _) (by omega) (Int.le_refl _) hl
    split at hl
    · exact step _ _ _ (Nat.le_refl _) (by omega) (Int.le_refl _) hl
    split at hl
    · exact step _ _ _ (Nat.le_refl _) (by omega) (Int.le_refl _) hl
    split at hl
    · split at hl
      · exact step _ _ _ (tail_le _) (by omega) (Int.le_refl _) hl
      split at hl
      · exact step _ _ _ (tail_le _) (by omega) (Int.le_refl _) hl
      · cases hl
    split at hl
    · split at hl
      · cases hl
      · rename_i t ht
        refine step _ _ _ (dropWhile_le _ _) (by omega) ?_ hl
        unfold one at ht
        split at ht <;> split at ht <;> cases ht <;> exact Int.le_refl _
    · cases hl

/-- a text that is cut at a blank. -/
theorem lexA_cut (s : List UInt8) (x : UInt8) (t : List UInt8) (hx : x = 32 ∨ x = 10) : ∀ (p : Int),
    ∃ (z : List UInt8) (q : Int), p + s.length ≤ q ∧ lexA (s ++ x :: t) p = then_ (lexA s p) (lexA z q) := by
  have hb : isBlank x = true := by rcases hx with rfl | rfl <;> decide
  have hlx : isLet x = false := by rcases hx with rfl | rfl <;> decide
  induction hn : s.length using Nat.strongRecOn generalizing s with
  | _ n ih =>
  intro p
  subst hn
  cases s with
  | nil =>
    refine ⟨t, p + 1, by simp; omega, ?_⟩
    rw [lexA_nil, then_ok_nil, List.nil_append, lexA_cons, if_pos hb]
  | cons c r =>
    rw [List.cons_append, lexA_cons, lexA_cons c r]
    split
    · obtain ⟨z, q, hq, h⟩ := ih r.length (by simp) r rfl (p + 1)
      exact ⟨z, q, by simp only [List.length_cons]; omega, h⟩
    split
    · -- a remark
      by_cases hnl : ∃ a b, r = a ++ 10 :: b ∧ ∀ y ∈ a, y ≠ 10
      · obtain ⟨a, b, rfl, ha⟩ := hnl
        have e1 : (a ++ 10 :: b).dropWhile (· != 10) = 10 :: b := by
          rw [dropWhile_stop (· != 10) a 10 b (by decide)]
          rw [dropWhile_all _ _ (by simpa using ha)]; rfl
        have e2 : (a ++ 10 :: b).takeWhile (· != 10) = a := by
          rw [takeWhile_stop (· != 10) a 10 b (by decide)]
          rw [takeWhile_all _ _ (by simpa using ha)]
        have e3 : (a ++ 10 :: b ++ x :: t) = a ++ 10 :: (b ++ x :: t) := by simp
        have e4 : (a ++ 10 :: (b ++ x :: t)).dropWhile (· != 10) = 10 :: (b ++ x :: t) := by
          rw [dropWhile_stop (· != 10) a 10 _ (by decide)]
          rw [dropWhile_all _ _ (by simpa using ha)]; rfl
        have e5 : (a ++ 10 :: (b ++ x :: t)).takeWhile (· != 10) = a := by
          rw [takeWhile_stop (· != 10) a 10 _ (by decide)]
          rw [takeWhile_all _ _ (by simpa using ha)]
        rw [e3, e4, e5, e1, e2]
        obtain ⟨z, q, hq, h⟩ := ih (10 :: b).length (by simp; omega) (10 :: b) rfl (p + 1 + a.length)
        refine ⟨z, q, ?_, ?_⟩
        · simp only [List.length_cons, List.length_append] at hq ⊢; omega
        · rw [← List.cons_append]; exact h
      · have ha : ∀ y ∈ r, y ≠ 10 := by
          intro y hy he
          subst he
          apply hnl
          obtain ⟨a, b, hab, hna⟩ := List.eq_append_cons_of_mem hy
          exact ⟨a, b, hab, fun y hy he => hna (he ▸ hy)⟩
        have e1 : r.dropWhile (· != 10) = [] := dropWhile_all _ _ (by simpa using ha)
        refine ⟨(r ++ x :: t).dropWhile (· != 10), p + 1 + ((r ++ x :: t).takeWhile (· != 10)).length, ?_, ?_⟩
        · have : (r ++ x :: t).takeWhile (· != 10) = r ++ (x :: t).takeWhile (· != 10) := by
            rw [List.takeWhile_append_of_pos (by simpa using ha)]
          rw [this]; simp only [List.length_append, List.length_cons]; omega
        · rw [e1, lexA_nil, then_ok_nil]
    have mk : ∀ (y : Tok) (w : List UInt8) (k : Int), w.length ≤ r.length → k + w.length = p + 1 + r.length → ∃ (z : List UInt8) (q : Int), p + (c :: r).length ≤ q ∧ cons y (lexA (w ++ x :: t) k) = then_ (cons y (lexA w k)) (lexA z q) := by
      intro y w k hw hk
      obtain ⟨z, q, hq, h⟩ := ih w.length (by simp; omega) w rfl k
      refine ⟨z, q, by simp only [List.length_cons]; omega, ?_⟩
      rw [h, cons_then]
    have mke : ∀ e, ∃ (z : List UInt8) (q : Int), p + (c :: r).length ≤ q ∧ (Except.error e : Res) = then_ (.error e) (lexA z q) :=
      fun e => ⟨[], p + (c :: r).length, Int.le_refl _, rfl⟩
    have mtl : ∀ (y : Tok), r ≠ [] → ∃ (z : List UInt8) (q : Int), p + (c :: r).length ≤ q ∧ cons y (lexA ((r ++ x :: t).tail) (p + 2)) = then_ (cons y (lexA r.tail (p + 2))) (lexA z q) := by
      intro y hr
      cases r with
      | nil => exact absurd rfl hr
      | cons d r =>
        rw [List.cons_append, List.tail_cons, List.tail_cons]
        exact mk y r (p + 2) (by simp) (by simp only [List.length_cons]; omega)
    split
    · exact mk _ r (p + 1) (Nat.le_refl _) rfl
    split
    · exact mk _ r (p + 1) (Nat.le_refl _) rfl
    split
    · exact mk _ r (p + 1) (Nat.le_refl _) rfl
    rw [takeWhile_stop isLet r x t hlx, dropWhile_stop isLet r x t hlx]
    split
    · split
      · rename_i h
        exact mtl _ (by rintro rfl; simp at h)
      split
      · rename_i h
        exact mtl _ (by rintro rfl; simp at h)
      · exact mke _
    split
    · have hl := take_drop_len isLet r
      cases one (c :: r.takeWhile isLet) p with
      | error e => exact mke _
      | ok y => exact mk y _ _ (dropWhile_le _ _) (by omega)
    · exact mke _

/-! ### Blanks and remarks ahead -/
theorem lexA_blank (c : UInt8) (s : List UInt8) (p : Int) (h : isBlank c = true) : lexA (c :: s) p = lexA s (p + 1) := by
  rw [lexA_cons, if_pos h]
theorem lexA_remark (a s : List UInt8) (p : Int) (h : ∀ y ∈ a, y ≠ 10) : lexA (59 :: (a ++ 10 :: s)) p = lexA s (p + 2 + a.length) := by
  rw [lexA_cons, if_neg (by decide), if_pos (by decide)]
  rw [dropWhile_stop (· != 10) a 10 _ (by decide), dropWhile_all _ _ (by simpa using h), List.nil_append]
  rw [takeWhile_stop (· != 10) a 10 _ (by decide), takeWhile_all _ _ (by simpa using h)]
  rw [lexA_blank _ _ _ (by decide)]
  congr 1; omega
end Go.Proofs.YthempkdgmobocaaDoorEd
end
section
namespace Go.Proofs.YthempkdgmobocaaDoorEd
/-! ### A number's digits -/
def digF : Nat → Nat → List UInt8
  | 0, _ => []
  | f + 1, n => if n > 9 then digF f (n / 10) ++ [(48 + n % 10).toUInt8] else [(48 + n).toUInt8]
def natDig (n : Nat) : List UInt8 := digF (n + 1) n
def digits (n : Int) : List UInt8 := if n < 0 then 45 :: natDig (-n).toNat else natDig n.toNat

theorem digF_more (n : Nat) : ∀ f g, n < f → n < g → digF f n = digF g n := by
  induction n using Nat.strongRecOn with
  | _ n ih =>
  intro f g hf hg
  obtain ⟨f, rfl⟩ : ∃ m, f = m + 1 := ⟨f - 1, by omega⟩
  obtain ⟨g, rfl⟩ : ∃ m, g = m + 1 := ⟨g - 1, by omega⟩
  simp only [digF]
  split
  · rw [ih (n / 10) (by omega) f g (by omega) (by omega)]
  · rfl
theorem natDig_eq (n : Nat) : natDig n = if n > 9 then natDig (n / 10) ++ [(48 + n % 10).toUInt8] else [(48 + n).toUInt8] := by
  show digF (n + 1) n = _
  simp only [digF]
  split
  · unfold natDig; rw [digF_more (n / 10) n (n / 10 + 1) (by omega) (by omega)]
  · rfl
theorem dig_byte (d : Nat) (h : d ≤ 9) : isDig (48 + d).toUInt8 = true ∧ ((48 + d).toUInt8.toNat : Int) - 48 = d := by
  have : d = 0 ∨ d = 1 ∨ d = 2 ∨ d = 3 ∨ d = 4 ∨ d = 5 ∨ d = 6 ∨ d = 7 ∨ d = 8 ∨ d = 9 := by omega
  rcases this with rfl | rfl | rfl | rfl | rfl | rfl | rfl | rfl | rfl | rfl <;> decide
theorem natDig_all (n : Nat) : (∀ c ∈ natDig n, isDig c = true) ∧ natDig n ≠ [] := by
  induction n using Nat.strongRecOn with
  | _ n ih =>
  rw [natDig_eq]
  split
  · have h := ih (n / 10) (by omega)
    refine ⟨fun c hc => ?_, by simp⟩
    rcases List.mem_append.1 hc with hc | hc
    · exact h.1 c hc
    · rw [List.mem_singleton] at hc; subst hc; exact (dig_byte (n % 10) (by omega)).1
  · refine ⟨fun c hc => ?_, by simp⟩
    rw [List.mem_singleton] at hc; subst hc; exact (dig_byte n (by omega)).1
theorem val0_snoc (w : List UInt8) (c : UInt8) : val0 (w ++ [c]) = val0 w * 10 + ((c.toNat : Int) - 48) := by
  unfold val0; rw [List.foldl_append]; rfl
theorem val0_natDig (n : Nat) : val0 (natDig n) = n := by
  induction n using Nat.strongRecOn with
  | _ n ih =>
  rw [natDig_eq]
  split
  · rw [val0_snoc, ih (n / 10) (by omega), (dig_byte (n % 10) (by omega)).2]; omega
  · have := (dig_byte n (by omega)).2
    show 0 * 10 + (((48 + n).toUInt8.toNat : Int) - 48) = n
    omega
theorem natDig_len (k : Nat) : ∀ n, n < 10 ^ (k + 1) → (natDig n).length ≤ k + 1 := by
  induction k with
  | zero => intro n hn; rw [natDig_eq, if_neg (by omega)]; simp
  | succ k ih =>
    intro n hn
    rw [natDig_eq]
    split
    · have := ih (n / 10) (by rw [Nat.pow_succ] at hn; omega)
      simp; omega
    · simp

theorem isDig_isLet (c : UInt8) (h : isDig c = true) : isLet c = true := by simp [isLet, h]
theorem isDig_ne (c : UInt8) (h : isDig c = true) : c ≠ 45 := by rintro rfl; revert h; decide
theorem isNum_digs (w : List UInt8) (h : ∀ c ∈ w, isDig c = true) (hw : w ≠ []) : isNum w = true ∧ val w = val0 w := by
  cases w with
  | nil => exact absurd rfl hw
  | cons c r =>
    have hc := isDig_ne c (h c (List.mem_cons_self ..))
    unfold isNum val
    split
    · rename_i heq; cases heq; exact absurd rfl hc
    · exact ⟨by simp; exact ⟨h c (List.mem_cons_self ..), fun y hy => h y (List.mem_cons_of_mem _ hy)⟩, rfl⟩
theorem isNum_neg (w : List UInt8) (h : ∀ c ∈ w, isDig c = true) (hw : w ≠ []) : isNum (45 :: w) = true ∧ val (45 :: w) = - val0 w := by
  refine ⟨?_, rfl⟩
  show (!w.isEmpty && w.all isDig) = true
  cases w with
  | nil => exact absurd rfl hw
  | cons c r => simpa using h
theorem digits_num (n : Int) : isNum (digits n) = true ∧ val (digits n) = n ∧ (∀ c ∈ digits n, isLet c = true) ∧ digits n ≠ [] := by
  unfold digits
  split
  · have h := natDig_all (-n).toNat
    have h2 := isNum_neg _ h.1 h.2
    refine ⟨h2.1, ?_, ?_, by simp⟩
    · rw [h2.2, val0_natDig]; omega
    · intro c hc
      rcases List.mem_cons.1 hc with rfl | hc
      · decide
      · exact isDig_isLet c (h.1 c hc)
  · have h := natDig_all n.toNat
    have h2 := isNum_digs _ h.1 h.2
    refine ⟨h2.1, ?_, fun c hc => isDig_isLet c (h.1 c hc), h.2⟩
    rw [h2.2, val0_natDig]; omega
theorem digits_len (n : Int) (h0 : -1000000000000 < n) (h1 : n < 1099511627776) : (digits n).length ≤ 13 := by
  unfold digits
  split
  · have := natDig_len 11 (-n).toNat (by omega)
    simp; omega
  · have := natDig_len 12 n.toNat (by omega)
    omega

/-! ### A token as text -/
def text (t : Tok) : List UInt8 :=
  if t.kind = 1 then [40] else if t.kind = 2 then [41] else if t.kind = 3 then [39]
  else if t.kind = 4 then digits t.n
  else if t.kind = 5 then (if t.n = 1 then [35, 116] else [35, 102])
  else t.s
/-- what a token of a text is. -/
def Good (t : Tok) : Prop :=
  ((t.kind = 1 ∨ t.kind = 2 ∨ t.kind = 3) ∧ t.n = 0 ∧ t.s = []) ∨
  (t.kind = 4 ∧ -1000000000000 < t.n ∧ t.n < 1099511627776 ∧ t.s = []) ∨
  (t.kind = 5 ∧ (t.n = 0 ∨ t.n = 1) ∧ t.s = []) ∨
  (t.kind = 6 ∧ t.n = 0 ∧ t.s ≠ [] ∧ t.s.length ≤ 32 ∧ isNum t.s = false ∧ ∀ c ∈ t.s, isLet c = true)

theorem val0_bd (w : List UInt8) (h : ∀ c ∈ w, isDig c = true) : 0 ≤ val0 w ∧ val0 w < 10 ^ w.length := by
  suffices ∀ (w : List UInt8), (∀ c ∈ w, isDig c = true) → 0 ≤ val0 w.reverse ∧ val0 w.reverse < 10 ^ w.length by
    have := this w.reverse (by simpa using h)
    simpa using this
  intro w
  induction w with
  | nil => intro _; exact ⟨Int.le_refl _, by decide⟩
  | cons c r ih =>
    intro h
    have ih := ih fun y hy => h y (List.mem_cons_of_mem _ hy)
    have hc := h c (List.mem_cons_self ..)
    have hc2 : 48 ≤ c.toNat ∧ c.toNat ≤ 57 := by
      simp only [isDig, Bool.and_eq_true, decide_eq_true_eq, UInt8.le_iff_toNat_le] at hc
      exact hc
    rw [List.reverse_cons, val0_snoc, List.length_cons, Int.pow_succ]
    omega
theorem isNum_cases (w : List UInt8) (h : isNum w = true) : (∃ r, w = 45 :: r ∧ r ≠ [] ∧ ∀ c ∈ r, isDig c = true) ∨ (w ≠ [] ∧ ∀ c ∈ w, isDig c = true) := by
  unfold isNum at h
  split at h
  · rename_i r
    refine .inl ⟨r, rfl, ?_⟩
    simpa using h
  · exact .inr (by simpa using h)
theorem one_good (w : List UInt8) (p : Int) (t : Tok) (hw : w ≠ []) (hl : ∀ c ∈ w, isLet c = true) (h : one w p = .ok t) :
    Good t ∧ t.pos = p ∧ (t.kind = 4 ∧ isNum w = true ∨ t.kind = 6 ∧ text t = w) := by
  unfold one at h
  split at h
  · rename_i hn
    split at h
    · cases h
    · rename_i hb
      cases h
      simp only [not_or] at hb
      refine ⟨.inr (.inl ⟨rfl, ?_, by show val w < _; omega, rfl⟩), rfl, .inl ⟨rfl, hn⟩⟩
      show -1000000000000 < val w
      rcases isNum_cases w hn with ⟨r, rfl, hr, hd⟩ | ⟨hw, hd⟩
      · have b := val0_bd r hd
        have e : val (45 :: r) = - val0 r := rfl
        have hlen : r.length ≤ 12 := by have := hb.1; simp at this; omega
        have : (10 : Int) ^ r.length ≤ 10 ^ 12 := by exact_mod_cast Nat.pow_le_pow_right (by omega) hlen
        rw [e]
        omega
      · rw [(isNum_digs w hd hw).2]
        have b := val0_bd w hd
        omega
  · rename_i hn
    split at h
    · cases h
    · rename_i hb
      cases h
      exact ⟨.inr (.inr (.inr ⟨rfl, rfl, hw, by simpa using hb, by simpa using hn, hl⟩)), rfl, .inr ⟨rfl, rfl⟩⟩

theorem isLet_not (c : UInt8) (h : isLet c = true) : isBlank c = false ∧ c ≠ 59 ∧ c ≠ 40 ∧ c ≠ 41 ∧ c ≠ 39 ∧ c ≠ 35 := by
  have key : ∀ d : UInt8, isLet d = false → c ≠ d := by rintro d hd rfl; rw [h] at hd; cases hd
  refine ⟨?_, key _ (by decide), key _ (by decide), key _ (by decide), key _ (by decide), key _ (by decide)⟩
  unfold isBlank
  simp [key 32 (by decide), key 9 (by decide), key 10 (by decide)]

theorem lexA_word (w s : List UInt8) (p : Int) (hw : w ≠ []) (hl : ∀ c ∈ w, isLet c = true) (hs : ∀ c r, s = c :: r → isLet c = false) :
    lexA (w ++ s) p = match one w p with | .error e => .error (p, e) | .ok t => cons t (lexA s (p + w.length)) := by
  cases w with
  | nil => exact absurd rfl hw
  | cons c r =>
    have hc := hl c (List.mem_cons_self ..)
    obtain ⟨n1, n2, n3, n4, n5, n6⟩ := isLet_not c hc
    have hr : ∀ y ∈ r, isLet y = true := fun y hy => hl y (List.mem_cons_of_mem _ hy)
    have e1 : (r ++ s).takeWhile isLet = r := by
      cases s with
      | nil => rw [List.append_nil, takeWhile_all _ _ hr]
      | cons d s => rw [takeWhile_stop _ _ _ _ (hs d s rfl), takeWhile_all _ _ hr]
    have e2 : (r ++ s).dropWhile isLet = s := by
      cases s with
      | nil => rw [List.append_nil, dropWhile_all _ _ hr]
      | cons d s => rw [dropWhile_stop _ _ _ _ (hs d s rfl), dropWhile_all _ _ hr]; rfl
    rw [List.cons_append, lexA_cons, if_neg (by simp [n1]), if_neg (by simp [n2]), if_neg (by simp [n3]), if_neg (by simp [n4]), if_neg (by simp [n5]), if_neg (by simp [n6]), if_pos hc, e1, e2]
    cases one (c :: r) p with
    | error e => rfl
    | ok t =>
      simp only [List.length_cons]
      congr 2
      omega

/-- a token's text, and a blank: the token again. -/
theorem lexA_text (t : Tok) (h : Good t) (s : List UInt8) (p : Int) :
    lexA (text t ++ 32 :: s) p = cons { t with pos := p } (lexA s (p + (text t).length + 1)) := by
  have bl : ∀ q, lexA (32 :: s) q = lexA s (q + 1) := fun q => lexA_blank 32 s q (by decide)
  obtain ⟨kind, pos, n, ts⟩ := t
  rcases h with ⟨hk, hn, hs⟩ | ⟨hk, h0, h1, hs⟩ | ⟨hk, hn, hs⟩ | ⟨hk, hn, h0, h1, h2, h3⟩
  · simp only at hk hn hs
    subst hn; subst hs
    rcases hk with rfl | rfl | rfl
    · show lexA (40 :: 32 :: s) p = _
      rw [lexA_cons, if_neg (by decide), if_neg (by decide), if_pos (by decide), bl]; rfl
    · show lexA (41 :: 32 :: s) p = _
      rw [lexA_cons, if_neg (by decide), if_neg (by decide), if_neg (by decide), if_pos (by decide), bl]; rfl
    · show lexA (39 :: 32 :: s) p = _
      rw [lexA_cons, if_neg (by decide), if_neg (by decide), if_neg (by decide), if_neg (by decide), if_pos (by decide), bl]; rfl
  · simp only at hk h0 h1 hs
    subst hk; subst hs
    show lexA (digits n ++ 32 :: s) p = cons _ (lexA s (p + (digits n).length + 1))
    obtain ⟨a, b, c, d⟩ := digits_num n
    rw [lexA_word _ _ _ d c (by rintro x r hx; cases hx; decide)]
    have : one (digits n) p = .ok ⟨4, p, n, []⟩ := by
      unfold one
      have := digits_len n h0 h1
      rw [if_pos a, b, if_neg (by omega)]
    rw [this]; simp only [bl]
  · simp only at hk hn hs
    subst hk; subst hs
    rcases hn with rfl | rfl
    · show lexA (35 :: 102 :: 32 :: s) p = _
      rw [lexA_cons, if_neg (by decide), if_neg (by decide), if_neg (by decide), if_neg (by decide), if_neg (by decide), if_pos (by decide)]
      have : (102 :: 32 :: s).takeWhile isLet = [102] := takeWhile_stop isLet [102] 32 s (by decide)
      rw [this, if_neg (by decide), if_pos rfl, List.tail_cons, bl]
      rfl
    · show lexA (35 :: 116 :: 32 :: s) p = _
      rw [lexA_cons, if_neg (by decide), if_neg (by decide), if_neg (by decide), if_neg (by decide), if_neg (by decide), if_pos (by decide)]
      have : (116 :: 32 :: s).takeWhile isLet = [116] := takeWhile_stop isLet [116] 32 s (by decide)
      rw [this, if_pos rfl, List.tail_cons, bl]
      rfl
  · simp only at hk hn h0 h1 h2 h3
    subst hk; subst hn
    show lexA (ts ++ 32 :: s) p = cons _ (lexA s (p + ts.length + 1))
    rw [lexA_word _ _ _ h0 h3 (by rintro x r hx; cases hx; decide)]
    have : one ts p = .ok ⟨6, p, 0, ts⟩ := by
      unfold one
      rw [if_neg (by simp [h2]), if_neg (by omega)]
    rw [this]; simp only [bl]

/-! ### What the tokens of a text are -/
/-- a token in a text. -/
def Stands (s : List UInt8) (p : Int) (t : Tok) : Prop :=
  Good t ∧ ∃ a w b, s = a ++ w ++ b ∧ t.pos = p + a.length ∧ w ≠ [] ∧ (t.kind = 4 ∧ isNum w = true ∨ t.kind ≠ 4 ∧ w = text t)
theorem Stands.later {z : List UInt8} {k : Int} {t : Tok} (h : Stands z k t) (u : List UInt8) (p : Int) (hk : k = p + u.length) : Stands (u ++ z) p t := by
  obtain ⟨g, a, w, b, hz, hp, hw, ht⟩ := h
  refine ⟨g, u ++ a, w, b, by rw [hz]; simp, ?_, hw, ht⟩
  rw [hp, hk]; simp; omega

theorem lexA_stands (s : List UInt8) : ∀ (p : Int) (l : List Tok), lexA s p = .ok l → (∀ t ∈ l, Stands s p t) ∧ l.Pairwise (fun t u => t.pos < u.pos) := by
  induction hn : s.length using Nat.strongRecOn generalizing s with
  | _ n ih =>
  intro p l hl
  subst hn
  cases s with
  | nil => rw [lexA_nil] at hl; cases hl; simp
  | cons c r =>
    have step0 : ∀ (u z : List UInt8) (k : Int), c :: r = u ++ z → u ≠ [] → k = p + u.length → lexA z k = .ok l → (∀ t ∈ l, Stands (c :: r) p t) ∧ l.Pairwise (fun t u => t.pos < u.pos) := by
      intro u z k e hu hk h
      have hz : z.length < (c :: r).length := by rw [e]; have := List.length_pos_iff.2 hu; simp; omega
      have h := ih z.length hz z rfl k l h
      exact ⟨fun t ht => by rw [e]; exact (h.1 t ht).later u p hk, h.2⟩
    have step : ∀ (u z : List UInt8) (k : Int) (t : Tok), c :: r = u ++ z → u ≠ [] → k = p + u.length → Stands (c :: r) p t → t.pos = p → cons t (lexA z k) = .ok l → (∀ t ∈ l, Stands (c :: r) p t) ∧ l.Pairwise (fun t u => t.pos < u.pos) := by
      intro u z k t e hu hk ht hp h
      have hz : z.length < (c :: r).length := by rw [e]; have := List.length_pos_iff.2 hu; simp; omega
      cases hx : lexA z k with
      | error e => rw [hx] at h; cases h
      | ok m =>
        rw [hx] at h; cases h
        have g := ih z.length hz z rfl k m hx
        have gp := lexA_pos z k m hx
        constructor
        · intro v hv
          rcases List.mem_cons.1 hv with rfl | hv
          · exact ht
          · rw [e]; exact (g.1 v hv).later u p hk
        · rw [List.pairwise_cons]
          refine ⟨fun v hv => ?_, g.2⟩
          have := gp v hv
          have := List.length_pos_iff.2 hu
          omega
    have mark : ∀ (k : Int) (x : List UInt8), (k = 1 ∨ k = 2 ∨ k = 3) → text ⟨k, p, 0, []⟩ = [c] → Stands (c :: r) p ⟨k, p, 0, []⟩ := by
      intro k x hk ht
      exact ⟨.inl ⟨hk, rfl, rfl⟩, [], [c], r, rfl, by simp, by simp, .inr ⟨by show k ≠ 4; omega, ht.symm⟩⟩
    rw [lexA_cons] at hl
    split at hl
    · exact step0 [c] r _ rfl (by simp) (by simp) hl
    split at hl
    · exact step0 (c :: r.takeWhile (· != 10)) _ _ (by rw [List.cons_append, takeWhile_split]) (by simp) (by simp; omega) hl
    split at hl
    · rename_i h; have h : c = 40 := by simpa using h
      subst h
      exact step [40] r _ _ rfl (by simp) (by simp) (mark 1 [] (by simp) rfl) rfl hl
    split at hl
    · rename_i h; have h : c = 41 := by simpa using h
      subst h
      exact step [41] r _ _ rfl (by simp) (by simp) (mark 2 [] (by simp) rfl) rfl hl
    split at hl
    · rename_i h; have h : c = 39 := by simpa using h
      subst h
      exact step [39] r _ _ rfl (by simp) (by simp) (mark 3 [] (by simp) rfl) rfl hl
    split at hl
    · rename_i h; have h : c = 35 := by simpa using h
      subst h
      have two : ∀ d : UInt8, r.takeWhile isLet = [d] → ∃ z, r = d :: z := by
        intro d hd
        cases r with
        | nil => simp at hd
        | cons e z =>
          simp only [List.takeWhile] at hd
          split at hd
          · exact ⟨z, by rw [(List.cons.inj hd).1]⟩
          · cases hd
      split at hl
      · rename_i h
        obtain ⟨z, rfl⟩ := two _ h
        exact step [35, 116] z _ _ rfl (by simp) rfl ⟨.inr (.inr (.inl ⟨rfl, .inr rfl, rfl⟩)), [], [35, 116], z, rfl, by simp, by simp, .inr ⟨by show (5 : Int) ≠ 4; decide, rfl⟩⟩ rfl hl
      split at hl
      · rename_i h
        obtain ⟨z, rfl⟩ := two _ h
        exact step [35, 102] z _ _ rfl (by simp) rfl ⟨.inr (.inr (.inl ⟨rfl, .inl rfl, rfl⟩)), [], [35, 102], z, rfl, by simp, by simp, .inr ⟨by show (5 : Int) ≠ 4; decide, rfl⟩⟩ rfl hl
      · cases hl
    split at hl
    · rename_i hc
      split at hl
      · cases hl
      · rename_i t ht
        have hall : ∀ y ∈ c :: r.takeWhile isLet, isLet y = true := by
          intro y hy
          rcases List.mem_cons.1 hy with rfl | hy
          · exact hc
          · have := List.all_takeWhile (p := isLet) (l := r); exact List.all_eq_true.1 this y hy
        obtain ⟨g, hp, hk⟩ := one_good _ p t (by simp) hall ht
        refine step (c :: r.takeWhile isLet) _ _ t (by rw [List.cons_append, takeWhile_split]) (by simp) (by simp; omega) ⟨g, [], c :: r.takeWhile isLet, r.dropWhile isLet, by simp, by simp [hp], by simp, ?_⟩ hp hl
        rcases hk with ⟨a, b⟩ | ⟨a, b⟩
        · exact .inl ⟨a, b⟩
        · exact .inr ⟨by omega, b.symm⟩
    · cases hl

/-- the text of tokens, a blank behind each. -/
def texts (l : List Tok) : List UInt8 := l.flatMap fun t => text t ++ [32]
/-- tokens with their places in it. -/
def placed : Int → List Tok → List Tok
  | _, [] => []
  | p, t :: l => { t with pos := p } :: placed (p + (text t).length + 1) l
theorem lexA_texts (l : List Tok) (h : ∀ t ∈ l, Good t) : ∀ p, lexA (texts l) p = .ok (placed p l) := by
  induction l with
  | nil => intro p; rfl
  | cons t l ih =>
    intro p
    have e : texts (t :: l) = text t ++ 32 :: texts l := by simp [texts]
    rw [e, lexA_text t (h t (List.mem_cons_self ..)), ih fun u hu => h u (List.mem_cons_of_mem _ hu)]
    rfl
end Go.Proofs.YthempkdgmobocaaDoorEd
end
section
/- The walks of lex.letter, lex.word, lex.number, lex.passed: what they come to, in the words of the plain law. -/
namespace Go.Proofs.YthempkdgmobocaaDoorE
open Go Go.RowKit Go.Proofs.YthempkdgmobocaaDoorEd

def signs : ByteArray := ⟨#[33, 36, 37, 38, 42, 43, 45, 47, 58, 60, 61, 62, 63, 94, 95, 126]⟩
theorem signs_ascii : ∀ i (hi : i < signs.size), (signs[i]'hi).toNat < 128 := by decide

/-- is a rune a letter of a name. -/
def letR (r : Int) : Bool := decide (0 ≤ r) && decide (r < 128) && isLet r.toNat.toUInt8

set_option maxHeartbeats 2000000 in
set_option maxRecDepth 100000 in
theorem containsRune_signs (r : Int) (h0 : 0 ≤ r) (h1 : r ≤ 1114111) (w : World) :
    Calls Tryd.prog 64 #[.string signs, .int .i32 r] w fun e w' => e = .returned (.bool (decide (r < 128) && decide (0 ≤ Lib.indexByte signs.data.toList r.toNat.toUInt8))) ∧ Below w.heap.size w w' := by
  by_cases h : r < 128
  · refine (Tryd.strings_ContainsRune_ascii signs r w h0 h).mono ?_
    rintro e w' ⟨rfl, rfl⟩
    exact ⟨by simp [h], Below.refl _ _⟩
  · have hd : decide (r < 128) = false := decide_eq_false h
    rw [hd]
    have key : Calls Tryd.prog 71 #[.string signs, .int .i32 r] w fun e w' => e = .returned (.int .i64 (-1)) ∧ Below w.heap.size w w' := by
      by_cases he : r = 65533
      · subst he; exact indexRune_err signs signs_ascii w
      · exact indexRune_high signs (by decide) (by decide) signs_ascii r (by omega) h1 he w
    clear hd
    generalize signs = sg at key ⊢
    go_enter Tryd.func64, Tryd.ntmps64
    go_wp2_with (go_at_call 71; refine key.mono ?_; rintro e w' ⟨rfl, hB⟩)
    go_ret
    exact ⟨rfl, hB⟩

theorem letR_tab : ∀ n : Fin 128, letR (n.val : Int) = ((97 ≤ n.val && n.val ≤ 122) || (65 ≤ n.val && n.val ≤ 90) || (48 ≤ n.val && n.val ≤ 57) || decide (0 ≤ Lib.indexByte signs.data.toList n.val.toUInt8)) := by decide +kernel
theorem letR_at (r : Int) (h0 : 0 ≤ r) (h1 : r < 128) : letR r = ((decide (97 ≤ r) && decide (r ≤ 122)) || (decide (65 ≤ r) && decide (r ≤ 90)) || (decide (48 ≤ r) && decide (r ≤ 57)) || decide (0 ≤ Lib.indexByte signs.data.toList r.toNat.toUInt8)) := by
  obtain ⟨n, rfl⟩ := Int.eq_ofNat_of_zero_le h0
  have := letR_tab ⟨n, by omega⟩
  rw [Int.toNat_natCast]
  have e97 : decide ((97 : Int) ≤ (n : Int)) = decide (97 ≤ n) := decide_eq_decide.2 (by omega)
  have e65 : decide ((65 : Int) ≤ (n : Int)) = decide (65 ≤ n) := decide_eq_decide.2 (by omega)
  have e48 : decide ((48 : Int) ≤ (n : Int)) = decide (48 ≤ n) := decide_eq_decide.2 (by omega)
  have e122 : decide ((n : Int) ≤ (122 : Int)) = decide (n ≤ 122) := decide_eq_decide.2 (by omega)
  have e90 : decide ((n : Int) ≤ (90 : Int)) = decide (n ≤ 90) := decide_eq_decide.2 (by omega)
  have e57 : decide ((n : Int) ≤ (57 : Int)) = decide (n ≤ 57) := decide_eq_decide.2 (by omega)
  rw [e97, e65, e48, e122, e90, e57]
  exact this
theorem letR_yes (r : Int) (h : (97 ≤ r ∧ r ≤ 122) ∨ (65 ≤ r ∧ r ≤ 90) ∨ (48 ≤ r ∧ r ≤ 57)) : letR r = true := by
  rw [letR_at r (by omega) (by omega)]
  rcases h with ⟨a, b⟩ | ⟨a, b⟩ | ⟨a, b⟩ <;> simp [a, b]
theorem letR_no (r : Int) (h0 : 0 ≤ r) (ha : ¬ (97 ≤ r ∧ r ≤ 122)) (hb : ¬ (65 ≤ r ∧ r ≤ 90)) (hc : ¬ (48 ≤ r ∧ r ≤ 57)) :
    letR r = (decide (r < 128) && decide (0 ≤ Lib.indexByte signs.data.toList r.toNat.toUInt8)) := by
  by_cases h : r < 128
  · have e1 : (decide (97 ≤ r) && decide (r ≤ 122)) = false := by simp; omega
    have e2 : (decide (65 ≤ r) && decide (r ≤ 90)) = false := by simp; omega
    have e3 : (decide (48 ≤ r) && decide (r ≤ 57)) = false := by simp; omega
    rw [letR_at r h0 h, e1, e2, e3]; simp [h]
  · simp [letR, h]

theorem ret_bool {a b : Bool} (h : a = b) : Ending.returned (.bool a) = .returned (.bool b) := by rw [h]
theorem ret_i64 {a b : Int} (h : a = b) : Ending.returned (.int .i64 a) = .returned (.int .i64 b) := by rw [h]
def RetLet (R : World → World → Prop) (r : Int) (w : World) (e : Ending) (w' : World) : Prop := e = .returned (.bool (letR r)) ∧ R w w'
theorem retLet_yes {R : World → World → Prop} {r : Int} {w w' : World} (h : (97 ≤ r ∧ r ≤ 122) ∨ (65 ≤ r ∧ r ≤ 90) ∨ (48 ≤ r ∧ r ≤ 57)) (hw : R w w') : RetLet R r w (.returned (.bool true)) w' :=
  ⟨by rw [letR_yes r h], hw⟩

set_option maxHeartbeats 4000000 in
set_option maxRecDepth 100000 in
theorem letter_of (R : World → World → Prop) (hR : ∀ w, R w w) (r : Int) (h0 : 0 ≤ r)
    (key0 : ∀ w, Calls Tryd.prog 64 #[.string signs, .int .i32 r] w fun e w' => e = .returned (.bool (decide (r < 128) && decide (0 ≤ Lib.indexByte signs.data.toList r.toNat.toUInt8))) ∧ R w w') (w : World) :
    Calls Tryd.prog 59 #[.int .i32 r] w (RetLet R r w) := by
  have key := Lib.hid key0
  have HR := Lib.hid hR
  clear key0 hR
  by_cases ha : 97 ≤ r ∧ r ≤ 122
  · obtain ⟨a1, a2⟩ := ha
    go_enter Tryd.func59, Tryd.ntmps59
    go_wp2
    go_ret
    exact retLet_yes (by omega) (HR.out _)
  by_cases hb : 65 ≤ r ∧ r ≤ 90
  · obtain ⟨a1, a2⟩ := hb
    go_enter Tryd.func59, Tryd.ntmps59
    go_wp2
    all_goals go_ret
    all_goals exact retLet_yes (by omega) (HR.out _)
  by_cases hc : 48 ≤ r ∧ r ≤ 57
  · obtain ⟨a1, a2⟩ := hc
    go_enter Tryd.func59, Tryd.ntmps59
    go_wp2
    all_goals go_ret
    all_goals exact retLet_yes (by omega) (HR.out _)
  have hfin := letR_no r h0 ha hb hc
  have HF := Lib.hid hfin
  clear hfin
  go_enter Tryd.func59, Tryd.ntmps59
  go_wp2_with (go_at_call 64; refine (key.out _).mono ?_; rintro e w' ⟨rfl, hB⟩)
  all_goals go_ret
  all_goals refine ⟨ret_bool ?_, hB⟩
  all_goals rw [HF.out]
  all_goals rw [Bool.eq_iff_iff]
  all_goals simp
  all_goals omega
theorem letter_calls (r : Int) (h0 : 0 ≤ r) (h1 : r ≤ 1114111) (w : World) : Calls Tryd.prog 59 #[.int .i32 r] w (RetLet (fun w w' => Below w.heap.size w w') r w) :=
  letter_of _ (fun _ => Below.refl _ _) r h0 (fun w => containsRune_signs r h0 h1 w) w
theorem letter_ascii (r : Int) (h0 : 0 ≤ r) (h1 : r < 128) (w : World) : Calls Tryd.prog 59 #[.int .i32 r] w (RetLet (fun w w' => w' = w) r w) :=
  letter_of (fun w w' => w' = w) (fun _ => rfl) r h0 (fun w => (Tryd.strings_ContainsRune_ascii signs r w h0 h1).mono (by rintro e w' ⟨rfl, rfl⟩; exact ⟨by simp [h1], rfl⟩)) w

theorem decode_le' (s : ByteArray) (pos : Nat) : (Utf8.decode s pos).1 ≤ 1114111 := by
  have hb : ∀ k, (s.get! (pos + k)).toNat < 256 := fun k => (s.get! (pos + k)).toNat_lt
  have h0 := hb 0; have h1 := hb 1; have h2 := hb 2; have h3 := hb 3
  simp only [Utf8.decode]
  repeat' split
  all_goals simp_all [Utf8.runeError, Utf8.valid]
  all_goals omega

theorem isLet_high (c : UInt8) (h : 128 ≤ c.toNat) : isLet c = false := by
  have : ∀ n : Fin 256, 128 ≤ n.val → isLet (UInt8.ofNat n.val) = false := by decide +kernel
  have := this ⟨c.toNat, c.toNat_lt⟩ h
  simpa using this

/-- how many bytes the word at the head of a text has. -/
def wlen (l : List UInt8) : Nat := (l.takeWhile isLet).length
theorem wlen_drop_yes (s : ByteArray) (pos : Nat) (h : pos < s.size) (hl : isLet (s[pos]'h) = true) : wlen (s.data.toList.drop pos) = 1 + wlen (s.data.toList.drop (pos + 1)) := by
  have h' : pos < s.data.toList.length := by simpa using h
  rw [List.drop_eq_getElem_cons h']
  have : s.data.toList[pos] = s[pos] := by simp; rfl
  rw [this]
  simp only [wlen, List.takeWhile, hl, List.length_cons]; omega
theorem wlen_drop_no (s : ByteArray) (pos : Nat) (h : pos < s.size) (hl : isLet (s[pos]'h) = false) : wlen (s.data.toList.drop pos) = 0 := by
  have h' : pos < s.data.toList.length := by simpa using h
  rw [List.drop_eq_getElem_cons h']
  have : s.data.toList[pos] = s[pos] := by simp; rfl
  rw [this]
  simp [wlen, List.takeWhile, hl]

set_option maxHeartbeats 4000000 in
set_option maxRecDepth 100000 in
theorem word_calls (s : ByteArray) (_hs : s.size ≤ maxLen) (w : World) :
    Calls Tryd.prog 44 #[.string s] w fun e w' => e = .returned (.int .i64 (wlen s.data.toList : Nat)) ∧ Below w.heap.size w w' := by
  unfold maxLen at _hs
  have hgoal : ∃ n : Nat, n = wlen s.data.toList := ⟨_, rfl⟩
  obtain ⟨n, hn⟩ := hgoal
  rw [← hn]
  have HN := Lib.hid hn
  clear hn
  go_enter Tryd.func44, Tryd.ntmps44
  go_wp2
  go_loopw [2, 3, 4] (fun _ _ _ w' => ∃ pos : Nat, w' = w.iter s pos ∧ pos ≤ s.size ∧ Hid (n = pos + wlen (s.data.toList.drop pos))) (fun _ _ _ w' => s.size - w'.iterPos w.heap.size)
  case atStart => exact ⟨0, rfl, Nat.zero_le _, Lib.hid (by rw [HN.out]; simp)⟩
  case round =>
    obtain ⟨pos, rfl, hle, HP⟩ := hrel
    by_cases hp : pos < s.size
    · by_cases ha : (s[pos]'hp).toNat < 128
      · have hd := decode_ascii s pos hp ha
        have hnx : ∀ ty, (Instr.next (.pointer (some ⟨w.heap.size, 0, none⟩)) true ty).run Tryd.prog (w.iter s pos) = _ := fun ty => run_next_ascii w s pos ty hp ha
        clear hd
        have hlet : letR ((s[pos]'hp).toNat : Int) = isLet (s[pos]'hp) := by
          simp [letR]; intro _; omega
        cases hl : isLet (s[pos]'hp) with
        | true =>
          rw [hl] at hlet
          have HL := Lib.hid hlet
          have HW := Lib.hid (wlen_drop_yes s pos hp hl)
          clear hlet hl
          go_wp2_with (go_at_call 59; refine (letter_ascii _ (by omega) (by omega) _).mono ?_; rintro e w' ⟨rfl, rfl⟩; rw [HL.out])
          go_roundw
          case rel => exact ⟨pos + 1, rfl, by omega, Lib.hid (by rw [HP.out, HW.out]; omega)⟩
          case measure => simp; omega
        | false =>
          rw [hl] at hlet
          have HL := Lib.hid hlet
          have HW := Lib.hid (wlen_drop_no s pos hp hl)
          clear hlet hl
          go_wp2_with (go_at_call 59; refine (letter_ascii _ (by omega) (by omega) _).mono ?_; rintro e w' ⟨rfl, rfl⟩; rw [HL.out])
          go_ret
          exact ⟨ret_i64 (by rw [HP.out, HW.out]; omega), (Below.refl _ _).alloc (Nat.le_refl _) _⟩
      · have hh := decode_high s pos hp (by omega)
        have hu := decode_le' s pos
        have hnx : ∀ ty, (Instr.next (.pointer (some ⟨w.heap.size, 0, none⟩)) true ty).run Tryd.prog (w.iter s pos) = _ := fun ty => run_next_any w s pos ty hp
        generalize Utf8.decode s pos = d at hh hu hnx
        obtain ⟨r, k⟩ := d
        simp only at hh hu hnx
        obtain ⟨hr, hk⟩ := hh
        have hlet : letR (r : Int) = false := by simp [letR]; omega
        have HL := Lib.hid hlet
        have HW := Lib.hid (wlen_drop_no s pos hp (isLet_high _ (by omega)))
        clear hlet
        go_wp2_with (go_at_call 59; refine (letter_calls _ (by omega) (by omega) _).mono ?_; rintro e w' ⟨rfl, hB⟩; rw [HL.out])
        go_ret
        refine ⟨ret_i64 (by rw [HP.out, HW.out]; omega), ?_⟩
        have h1 : Below w.heap.size w (w.iter s (pos + k)) := (Below.refl _ _).alloc (Nat.le_refl _) _
        exact h1.trans (hB.mono (by simp [World.iter]))
    · have hnx : ∀ ty, (Instr.next (.pointer (some ⟨w.heap.size, 0, none⟩)) true ty).run Tryd.prog (w.iter s pos) = _ := fun ty => run_next_end w s pos ty hp
      go_wp2
      go_ret
      refine ⟨ret_i64 ?_, (Below.refl _ _).alloc (Nat.le_refl _) _⟩
      rw [HP.out, List.drop_of_length_le (by simp; omega)]
      simp [wlen]; omega
end Go.Proofs.YthempkdgmobocaaDoorE
end
section
/- The walks of lex.number and lex.passed: what they come to, in the words of the plain law. -/
namespace Go.Proofs.YthempkdgmobocaaDoorE
open Go Go.RowKit Go.Proofs.YthempkdgmobocaaDoorEd

theorem isNum_trim (l : List UInt8) : isNum l = (!(Lib.trimPrefix l [45]).isEmpty && (Lib.trimPrefix l [45]).all isDig) := by
  unfold isNum
  split
  · simp [Lib.trimPrefix, Lib.hasPrefix]
  · rename_i h
    have : Lib.hasPrefix l [45] = false := by
      cases l with
      | nil => rfl
      | cons c r =>
        have : c ≠ 45 := fun e => h r (by rw [e])
        simp [Lib.hasPrefix, List.isPrefixOf]
        exact fun e => this e.symm
    simp [Lib.trimPrefix, this]
theorem isDig_nat (c : UInt8) : isDig c = (decide (48 ≤ c.toNat) && decide (c.toNat ≤ 57)) := by
  simp [isDig, UInt8.le_iff_toNat_le]

theorem all_drop_yes (s : ByteArray) (pos : Nat) (h : pos < s.size) (hl : isDig (s[pos]'h) = true) : (s.data.toList.drop pos).all isDig = (s.data.toList.drop (pos + 1)).all isDig := by
  have h' : pos < s.data.toList.length := by simpa using h
  rw [List.drop_eq_getElem_cons h']
  have : s.data.toList[pos] = s[pos] := by simp; rfl
  rw [this]
  simp [hl]
theorem all_drop_no (s : ByteArray) (pos : Nat) (h : pos < s.size) (hl : isDig (s[pos]'h) = false) : (s.data.toList.drop pos).all isDig = false := by
  have h' : pos < s.data.toList.length := by simpa using h
  rw [List.drop_eq_getElem_cons h']
  have : s.data.toList[pos] = s[pos] := by simp; rfl
  rw [this]
  simp [hl]

set_option maxHeartbeats 4000000 in
set_option maxRecDepth 100000 in
theorem number_calls (s0 : ByteArray) (w : World) :
    Calls Tryd.prog 60 #[.string s0] w fun e w' => e = .returned (.bool (isNum s0.data.toList)) ∧ Below w.heap.size w w' := by
  have hc := Tryd.strings_TrimPrefix s0 ⟨#[45]⟩ w
  have hn := isNum_trim s0.data.toList
  generalize hs : (⟨(Lib.trimPrefix s0.data.toList [45]).toArray⟩ : ByteArray) = s
  have hl : Lib.trimPrefix s0.data.toList [45] = s.data.toList := by rw [← hs]
  have hc2 : Calls Tryd.prog 67 #[.string s0, .string ⟨#[45]⟩] w fun e w' => e = .returned (.string s) ∧ w = w' := by rw [← hs]; exact hc.mono fun _ _ h => ⟨h.1, h.2.symm⟩
  rw [hl] at hn
  have HN := Lib.hid hn
  clear hn hc hs hl
  generalize isNum s0.data.toList = b at HN ⊢
  go_enter Tryd.func60, Tryd.ntmps60
  go_wp2_with (go_at_call 67; refine hc2.mono ?_; rintro e w' ⟨rfl, rfl⟩)
  go_loopw [2, 4] (fun _ _ w' => ∃ pos : Nat, w' = w.iter s pos ∧ pos ≤ s.size ∧ Hid (s.data.toList.all isDig = (s.data.toList.drop pos).all isDig)) (fun _ _ w' => s.size - w'.iterPos w.heap.size)
  case atStart => exact ⟨0, rfl, Nat.zero_le _, Lib.hid (by simp)⟩
  case round =>
    obtain ⟨pos, rfl, hle, HP⟩ := hrel
    by_cases hp : pos < s.size
    · by_cases ha : (s[pos]'hp).toNat < 128
      · have hnx : ∀ ty, (Instr.next (.pointer (some ⟨w.heap.size, 0, none⟩)) true ty).run Tryd.prog (w.iter s pos) = _ := fun ty => run_next_ascii w s pos ty hp ha
        have hdig := isDig_nat (s[pos]'hp)
        cases hl : isDig (s[pos]'hp) with
        | true =>
          rw [hl] at hdig
          have h2 : 48 ≤ (s[pos]'hp).toNat ∧ (s[pos]'hp).toNat ≤ 57 := by simpa using hdig.symm
          obtain ⟨h3, h4⟩ := h2
          have b1 : decide (((s[pos]'hp).toNat : Int) < 48) = false := decide_eq_false (by omega)
          have b2 : decide ((57 : Int) < ((s[pos]'hp).toNat : Int)) = false := decide_eq_false (by omega)
          have HW := Lib.hid (all_drop_yes s pos hp hl)
          clear hdig hl
          go_wp2
          go_roundw
          case rel => exact ⟨pos + 1, rfl, by omega, Lib.hid (by rw [HP.out, HW.out])⟩
          case measure => simp; omega
        | false =>
          have HW := Lib.hid (all_drop_no s pos hp hl)
          rw [hl] at hdig
          have hf : b = false := by rw [HN.out, HP.out, HW.out]; simp
          subst hf
          by_cases h48 : (s[pos]'hp).toNat < 48
          · have b1 : decide (((s[pos]'hp).toNat : Int) < 48) = true := decide_eq_true (by omega)
            clear hdig hl
            go_wp2
            go_ret
            exact ⟨rfl, (Below.refl _ _).alloc (Nat.le_refl _) _⟩
          · have b1 : decide (((s[pos]'hp).toNat : Int) < 48) = false := decide_eq_false (by omega)
            have h5 : ¬ (s[pos]'hp).toNat ≤ 57 := by
              intro h5
              simp [h5] at hdig; omega
            have b2 : decide ((57 : Int) < ((s[pos]'hp).toNat : Int)) = true := decide_eq_true (by omega)
            clear hdig hl
            go_wp2
            go_ret
            exact ⟨rfl, (Below.refl _ _).alloc (Nat.le_refl _) _⟩
      · have hh := decode_high s pos hp (by omega)
        have hdig := isDig_nat (s[pos]'hp)
        have hf : isDig (s[pos]'hp) = false := by rw [hdig]; simp; omega
        have HW := Lib.hid (all_drop_no s pos hp hf)
        have hnx : ∀ ty, (Instr.next (.pointer (some ⟨w.heap.size, 0, none⟩)) true ty).run Tryd.prog (w.iter s pos) = _ := fun ty => run_next_any w s pos ty hp
        generalize Utf8.decode s pos = d at hh hnx
        obtain ⟨r, k⟩ := d
        simp only at hh hnx
        obtain ⟨hr, hk⟩ := hh
        have hf2 : b = false := by rw [HN.out, HP.out, HW.out]; simp
        subst hf2
        have b1 : decide ((r : Int) < 48) = false := decide_eq_false (by omega)
        have b2 : decide ((57 : Int) < (r : Int)) = true := decide_eq_true (by omega)
        clear hdig hf
        go_wp2
        go_ret
        exact ⟨rfl, (Below.refl _ _).alloc (Nat.le_refl _) _⟩
    · have hnx : ∀ ty, (Instr.next (.pointer (some ⟨w.heap.size, 0, none⟩)) true ty).run Tryd.prog (w.iter s pos) = _ := fun ty => run_next_end w s pos ty hp
      have hb : b = !s.data.toList.isEmpty := by
        rw [HN.out, HP.out, List.drop_of_length_le (by simp; omega)]; simp
      have HB := Lib.hid hb
      clear hb
      go_wp2
      go_ret
      refine ⟨ret_bool ?_, (Below.refl _ _).alloc (Nat.le_refl _) _⟩
      rw [HB.out]
      rw [Lib.toList_data]

theorem dropWhile_none (l : List UInt8) (h : ∀ k : Nat, l[k]? ≠ some 10) : l.dropWhile (· != 10) = [] :=
  dropWhile_all _ _ fun x hx => by
    obtain ⟨i, hi, rfl⟩ := List.getElem_of_mem hx
    have := h i
    rw [List.getElem?_eq_getElem hi] at this
    simpa using fun e => this (congrArg some e)
theorem dropWhile_at (l : List UInt8) (i : Nat) (h1 : l[i]? = some 10) (h2 : ∀ k, k < i → l[k]? ≠ some 10) : l.dropWhile (· != 10) = l.drop i := by
  induction l generalizing i with
  | nil => simp at h1
  | cons c r ih =>
    cases i with
    | zero =>
      have : c = 10 := by simpa using h1
      subst this
      rfl
    | succ i =>
      have hc : c ≠ 10 := by have := h2 0 (by omega); simpa using this
      have e : (c != 10) = true := by simpa using hc
      simp only [List.dropWhile, e, List.drop_succ_cons]
      exact ih i (by simpa using h1) fun k hk => by have := h2 (k + 1) (by omega); simpa using this

/-- what stands behind the first newline. -/
def tailNl (l : List UInt8) : List UInt8 := (l.dropWhile (· != 10)).drop 1
def RetCut (s : ByteArray) (w : World) (e : Ending) (w' : World) : Prop := ∃ b f, e = .returned (.tuple #[.string b, .string ⟨(tailNl s.data.toList).toArray⟩, .bool f]) ∧ Below w.heap.size w w'

set_option maxHeartbeats 4000000 in
set_option maxRecDepth 100000 in
theorem scut_calls (s : ByteArray) (hs : s.size ≤ maxLen) (w : World) : Calls Tryd.prog 57 #[.string s, .string ⟨#[10]⟩] w (RetCut s w) := by
  unfold maxLen at hs
  have hi := Tryd.stringslite_Index_one s 10 w
  rcases Int.lt_or_le (Lib.indexByte s.data.toList 10) 0 with h | h
  · have h1 : Lib.indexByte s.data.toList 10 = -1 := by have := Lib.indexByte_ge s.data.toList 10; omega
    have e1 : tailNl s.data.toList = [] := by unfold tailNl; rw [dropWhile_none _ (Lib.indexByte_none h1)]; rfl
    rw [h1] at hi
    clear h h1
    have H1 := Lib.hid e1
    clear e1
    go_enter Tryd.func57, Tryd.ntmps57
    go_wp2_with (go_at_call 65; refine hi.mono ?_; rintro e w' ⟨rfl, rfl⟩)
    go_ret3
    exact ⟨s, false, by rw [H1.out]; rfl, Below.refl _ _⟩
  · obtain ⟨i, hi2⟩ := Int.eq_ofNat_of_zero_le h
    have h2 := Lib.indexByte_some hi2
    have hlt : i < s.size := by
      have := h2.1
      rw [List.getElem?_eq_some_iff] at this
      obtain ⟨h, _⟩ := this
      simpa using h
    have e1 : (⟨(tailNl s.data.toList).toArray⟩ : ByteArray) = s.extract (i + 1) s.size := by
      unfold tailNl
      rw [dropWhile_at _ i h2.1 h2.2, List.drop_drop, Lib.extract_eq, List.take_of_length_le (by simp)]
    rw [hi2] at hi
    clear h h2 hi2
    have H1 := Lib.hid e1
    clear e1
    have c1 : (0 : Int) ≤ ↑i := by omega
    have c2 : (↑i : Int) ≤ ↑s.size := by omega
    have c3 : (0 : Int) ≤ ↑i + 1 := by omega
    have c4 : (↑i + 1 : Int) ≤ ↑s.size := by omega
    go_enter Tryd.func57, Tryd.ntmps57
    go_wp2_with (go_at_call 65; refine hi.mono ?_; rintro e w' ⟨rfl, rfl⟩)
    go_region
    all_goals go_wp2
    all_goals go_ret3
    all_goals exact ⟨s.extract 0 i, true, by rw [H1.out]; rfl, (Below.refl _ _).drew⟩

set_option maxHeartbeats 4000000 in
theorem cut_calls (s : ByteArray) (hs : s.size ≤ maxLen) (w : World) : Calls Tryd.prog 42 #[.string s, .string ⟨#[10]⟩] w (RetCut s w) := by
  have hc := scut_calls s hs
  have HC := Lib.hid hc
  clear hc
  go_enter Tryd.func42, Tryd.ntmps42
  go_wp2_with (go_at_call 57; refine (HC.out _).mono ?_; rintro e w' ⟨b, f, rfl, hB⟩)
  go_ret3
  exact ⟨b, f, rfl, hB⟩
end Go.Proofs.YthempkdgmobocaaDoorE
end
section
/- The walk of lex.passed: what it comes to, in the words of the plain law. -/
namespace Go.Proofs.YthempkdgmobocaaDoorE
open Go Go.RowKit Go.Proofs.YthempkdgmobocaaDoorEd

def blanks : ByteArray := ⟨#[32, 9, 10]⟩
theorem trim_calls (s : ByteArray) (w : World) :
    Calls Tryd.prog 40 #[.string s, .string blanks] w fun e w' => e = .returned (.string ⟨(s.data.toList.dropWhile isBlank).toArray⟩) ∧ Below w.heap.size w w' := by
  have h := Any.strings_TrimLeft_laid Tryd.lays161 (by kernel_rfl) s blanks w (by decide) (ascii_of_all (by decide))
  have e : Lib.trimLeftS s.data.toList blanks.data.toList = s.data.toList.dropWhile isBlank := by
    unfold Lib.trimLeftS
    congr 1
    funext c
    simp only [blanks, isBlank, List.contains, List.elem]
    cases c == 32 <;> cases c == 9 <;> cases c == 10 <;> rfl
  have h2 : Calls Tryd.prog 40 #[.string s, .string blanks] w fun e w' => e = .returned (.string ⟨(Lib.trimLeftS s.data.toList blanks.data.toList).toArray⟩) ∧ Below w.heap.size w w' := h
  rw [e] at h2
  exact h2

/-- what is left behind blanks and remarks. -/
def skipF : Nat → List UInt8 → List UInt8
  | 0, t => t
  | f + 1, t => if Lib.hasPrefix t [59] then skipF f ((tailNl t).dropWhile isBlank) else t
def left (l : List UInt8) : List UInt8 := skipF (l.length + 1) (l.dropWhile isBlank)
theorem tailNl_lt (t : List UInt8) (h : Lib.hasPrefix t [59] = true) : (tailNl t).length < t.length := by
  unfold tailNl
  have := dropWhile_le (· != 10) t
  cases t with
  | nil => simp [Lib.hasPrefix] at h
  | cons c r => simp only [List.length_drop, List.length_cons] at this ⊢; omega
theorem skipF_le (f : Nat) (t : List UInt8) : (skipF f t).length ≤ t.length := by
  induction f generalizing t with
  | zero => exact Nat.le_refl _
  | succ f ih =>
    unfold skipF
    split
    · rename_i h
      have := ih ((tailNl t).dropWhile isBlank)
      have := dropWhile_le isBlank (tailNl t)
      have := tailNl_lt t h
      omega
    · exact Nat.le_refl _
theorem left_le (l : List UInt8) : (left l).length ≤ l.length := Nat.le_trans (skipF_le _ _) (dropWhile_le _ _)

def strLen : Value → Nat | .string s => s.size | _ => 0

set_option maxHeartbeats 4000000 in
set_option maxRecDepth 100000 in
theorem passed_calls (s : ByteArray) (hs : s.size ≤ maxLen) (w : World) :
    Calls Tryd.prog 29 #[.string s] w fun e w' => e = .returned (.int .i64 ((s.size : Int) - ((left s.data.toList).length : Nat))) ∧ Below w.heap.size w w' := by
  unfold maxLen at hs
  have hg : ∃ n : Nat, n = (left s.data.toList).length := ⟨_, rfl⟩
  obtain ⟨n, hn⟩ := hg
  have hns : n ≤ s.size := by rw [hn]; exact Nat.le_trans (left_le _) (by simp)
  rw [← hn]
  have HN := Lib.hid hn
  clear hn
  have HT := Lib.hid (fun s w => trim_calls s w)
  have HC := Lib.hid (fun s (hs : s.size ≤ maxLen) w => cut_calls s hs w)
  have hb : blanks = ⟨#[32, 9, 10]⟩ := rfl
  rw [hb] at HT
  clear hb
  go_enter Tryd.func29, Tryd.ntmps29
  go_wp2_with (go_at_call 40; refine (HT.out _ _).mono ?_; rintro e w' ⟨rfl, hB⟩)
  go_loopw [0, 8, 9, 10, 11, 12, 13, 14, 15, 16, 17] (fun v _ _ _ _ _ _ _ _ _ _ wr => ∃ (t : ByteArray) (f : Nat), v = .string t ∧ t.size < f ∧ t.size ≤ s.size ∧ Hid (n = (skipF f t.data.toList).length) ∧ Below w.heap.size w wr) (fun v _ _ _ _ _ _ _ _ _ _ _ => strLen v)
  case atStart =>
    refine ⟨_, s.size + 1, rfl, ?_, ?_, Lib.hid ?_, hB⟩
    · have := dropWhile_le isBlank s.data.toList
      show _ < s.size + 1
      rw [Lib.size_eq]; simp at this ⊢; omega
    · have := dropWhile_le isBlank s.data.toList
      rw [Lib.size_eq]; simp at this ⊢; omega
    · rw [HN.out]; unfold left; simp
  case round =>
    obtain ⟨t, f, rfl, hf, hle, HP, HB⟩ := hrel
    have hm : t.size ≤ maxLen := by unfold maxLen; omega
    obtain ⟨f, rfl⟩ : ∃ m, f = m + 1 := ⟨f - 1, by omega⟩
    have hpre := Tryd.strings_HasPrefix t ⟨#[59]⟩
    have hpre2 : ∀ w, Calls Tryd.prog 41 #[.string t, .string ⟨#[59]⟩] w fun e w' => e = .returned (.bool (Lib.hasPrefix t.data.toList [59])) ∧ w' = w := fun w => hpre w
    clear hpre
    cases hx : Lib.hasPrefix t.data.toList [59] with
    | true =>
      rw [hx] at hpre2
      have H2 := Lib.hid hpre2
      have HX := Lib.hid hx
      have h1 := tailNl_lt _ hx
      have h2 := dropWhile_le isBlank (tailNl t.data.toList)
      clear hpre2 hx
      have hz := Lib.size_eq t
      have HS := Lib.hid hz
      have h3 : ((tailNl t.data.toList).dropWhile isBlank).length < t.size := by omega
      clear h1 h2 hz
      go_wp2_with (first
        | (go_at_call 41; refine (H2.out _).mono ?_; rintro e w' ⟨rfl, hw⟩; rw [hw]; clear hw)
        | (go_at_call 42; refine (HC.out _ hm _).mono ?_; rintro e w2 ⟨b, fnd, rfl, hB2⟩)
        | (go_at_call 40; refine (HT.out _ _).mono ?_; rintro e w3 ⟨rfl, hB3⟩))
      go_roundw
      case rel =>
        refine ⟨_, f, rfl, ?_, ?_, Lib.hid ?_, HB.trans (hB2.mono HB.size |>.trans (hB3.mono ?_))⟩
        · show ((tailNl t.data.toList).dropWhile isBlank).length < f
          omega
        · show ((tailNl t.data.toList).dropWhile isBlank).length ≤ s.size
          omega
        · rw [HP.out]
          show (skipF (f + 1) t.data.toList).length = (skipF f ((tailNl t.data.toList).dropWhile isBlank)).length
          simp only [skipF, HX.out, if_true]
        · exact Nat.le_trans HB.size hB2.size
      case measure =>
        show ((tailNl t.data.toList).dropWhile isBlank).length < t.size
        exact h3
    | false =>
      rw [hx] at hpre2
      have H2 := Lib.hid hpre2
      have hfin : n = t.size := by
        rw [HP.out]; unfold skipF; rw [if_neg (by rw [hx]; simp)]; exact (Lib.size_eq t).symm
      clear hpre2 hx
      subst hfin
      go_wp2_with (go_at_call 41; refine (H2.out _).mono ?_; rintro e w' ⟨rfl, hw⟩; rw [hw])
      go_ret
      exact ⟨rfl, HB⟩
end Go.Proofs.YthempkdgmobocaaDoorE
end
section
/- The walk of lex.token: the token of a word, in the words of the plain law; premise: the two errors of strconv hold an error. -/
namespace Go.Proofs.YthempkdgmobocaaDoorE
open Go Go.RowKit Go.Proofs.YthempkdgmobocaaDoorEd

theorem decFrom_val (w : List UInt8) (h : ∀ c ∈ w, isDig c = true) : ∀ acc : Nat, ∃ m : Nat, Lib.decFrom acc w = some m ∧ (m : Int) = w.foldl (fun n c => n * 10 + ((c.toNat : Int) - 48)) (acc : Int) := by
  induction w with
  | nil => intro acc; exact ⟨acc, rfl, rfl⟩
  | cons c r ih =>
    intro acc
    have hc := h c (List.mem_cons_self ..)
    have hc2 : 48 ≤ c.toNat ∧ c.toNat ≤ 57 := by
      rw [isDig_nat] at hc; simpa using hc
    have hd : Lib.digitVal c = some (c.toNat - 48) := by
      unfold Lib.digitVal
      rw [if_pos hc2]
    obtain ⟨m, h1, h2⟩ := ih (fun y hy => h y (List.mem_cons_of_mem _ hy)) (acc * 10 + (c.toNat - 48))
    refine ⟨m, ?_, ?_⟩
    · simp only [Lib.decFrom, hd]
      exact h1
    · rw [h2]
      show _ = List.foldl _ ((acc : Int) * 10 + ((c.toNat : Int) - 48)) r
      congr 1
      omega
theorem decNat_val (w : List UInt8) (hne : w ≠ []) (h : ∀ c ∈ w, isDig c = true) : ∃ m : Nat, Lib.decNat w = some m ∧ (m : Int) = val0 w := by
  obtain ⟨m, h1, h2⟩ := decFrom_val w h 0
  refine ⟨m, ?_, h2⟩
  unfold Lib.decNat
  rw [if_neg (by simpa using hne)]
  exact h1
theorem atoi_num (w : List UInt8) (h : isNum w = true) (hl : w.length ≤ 18) : Lib.atoiAll w = .ok (val w) := by
  rw [Lib.atoiAll_short w hl]
  rcases isNum_cases w h with ⟨r, rfl, hr, hd⟩ | ⟨hw, hd⟩
  · obtain ⟨m, h1, h2⟩ := decNat_val r hr hd
    have : Lib.atoi (45 :: r) = some (-(m : Int)) := by
      simp only [Lib.atoi]
      rw [if_pos (by decide), h1]; rfl
    rw [this, (isNum_neg r hd hr).2, h2]; rfl
  · obtain ⟨m, h1, h2⟩ := decNat_val w hw hd
    rw [(isNum_digs w hd hw).2, ← h2]
    cases w with
    | nil => exact absurd rfl hw
    | cons c r =>
      have hc := hd c (List.mem_cons_self ..)
      have n45 : (c == 45) = false := by rw [beq_eq_false_iff_ne]; rintro rfl; revert hc; decide
      have n43 : (c == 43) = false := by rw [beq_eq_false_iff_ne]; rintro rfl; revert hc; decide
      have : Lib.atoi (c :: r) = some (m : Int) := by
        simp [Lib.atoi, n45, n43, h1]
      rw [this]; rfl

/-- the two errors of strconv's hold an error. -/
def GoodW (w : World) : Prop := (∃ tp p, w.var? Tryd.prog "strconv.ErrSyntax" = some #[.iface tp p]) ∧ ∃ tp p, w.var? Tryd.prog "strconv.ErrRange" = some #[.iface tp p]
theorem var_below {P : Program} {B g : Nat} {W W' : World} {n : String} {cs : Array Value} (h : Below B W W') (hg : P.globalNamed n = some g) (hgB : g < B) (hv : W.var? P n = some cs) : W'.var? P n = some cs := by
  unfold World.var? at hv ⊢
  simp only [hg, Option.bind_some] at hv ⊢
  rw [h.block g hgB]
  exact hv
theorem gSyntax : Tryd.prog.globalNamed "strconv.ErrSyntax" = some 3 := by kernel_rfl
theorem gRange : Tryd.prog.globalNamed "strconv.ErrRange" = some 4 := by kernel_rfl
theorem GoodW.below {w W : World} (h : GoodW w) (hb : Below w.heap.size w W) : GoodW W := by
  obtain ⟨⟨tp, p, h1⟩, ⟨tq, q, h2⟩⟩ := h
  have lt1 : 3 < w.heap.size := World.block_lt_of_cell? w _ (World.var?_cell gSyntax h1 0)
  have lt2 : 4 < w.heap.size := World.block_lt_of_cell? w _ (World.var?_cell gRange h2 0)
  exact ⟨⟨tp, p, var_below hb gSyntax lt1 h1⟩, ⟨tq, q, var_below hb gRange lt2 h2⟩⟩

/-- what lex.token hands back. -/
def tokenR (w : List UInt8) : Int × Int × Int × ByteArray × Int :=
  match one w 0 with
  | .error e => (0, 0, 0, ⟨#[]⟩, e)
  | .ok t => (t.kind, 0, t.n, ⟨t.s.toArray⟩, 0)
def RetTok (r : Int × Int × Int × ByteArray × Int) (w : World) (e : Ending) (w' : World) : Prop :=
  e = .returned (.tuple #[.agg #[.int .u8 r.1, .int .i64 r.2.1, .int .i64 r.2.2.1, .string r.2.2.2.1], .int .i64 r.2.2.2.2]) ∧ Below w.heap.size w w'

theorem bcell {W w1 : World} (hb : Below W.heap.size W w1) : (∀ b o, b < W.heap.size → w1.cell? ⟨b, o, none⟩ = W.cell? ⟨b, o, none⟩) ∧ (∀ b o, b < W.heap.size → w1.frozen? ⟨b, o, none⟩ = W.frozen? ⟨b, o, none⟩) :=
  ⟨fun b o h => hb.cell (p := ⟨b, o, none⟩) h, fun b o h => hb.frozen (p := ⟨b, o, none⟩) h⟩

def RetAtoi (w : World) (e : Ending) (w' : World) : Prop := ∃ v err, e = .returned (.tuple #[.int .i64 v, err]) ∧ Below w.heap.size w w'
theorem atoi_ok (s : ByteArray) (hs : s.size ≤ 140737488355328) (v : Int) (h : Lib.atoiAll s.data.toList = .ok v) (w : World) :
    Calls Tryd.prog 61 #[.string s] w fun e w' => e = .returned (.tuple #[.int .i64 v, .nilIface]) ∧ Below w.heap.size w w' := by
  have h9 : s.size ≤ 9223372036854775806 := by omega
  refine (Tryd.strconv_Atoi_ok s h9 v h w).mono ?_
  rintro e w' ⟨rfl, hw⟩
  refine ⟨rfl, ?_⟩
  rcases hw with rfl | ⟨t, rfl⟩
  · exact Below.refl _ _
  · exact Lib.bytesWorld_below _ _ _
theorem atoi_any (s : ByteArray) (hs : s.size ≤ 140737488355328) (w : World) (hg : GoodW w) : Calls Tryd.prog 61 #[.string s] w (RetAtoi w) := by
  have h9 : s.size ≤ 281474976710656 := by omega
  cases h : Lib.atoiAll s.data.toList
  · rename_i v
    refine (atoi_ok s hs v h w).mono ?_
    rintro e w' ⟨rfl, hB⟩
    exact ⟨v, _, rfl, hB⟩
  · obtain ⟨⟨tp, p, hv⟩, _⟩ := hg
    refine (Any.strconv_Atoi_syntax_var Tryd.laysC172 s h9 h tp p w hv).mono ?_
    rintro e w' ⟨N, rfl, _, _, hB⟩
    exact ⟨_, _, rfl, hB⟩
  · obtain ⟨_, tp, p, hv⟩ := hg
    refine (Tryd.strconv_Atoi_range_var s h9 h tp p w hv).mono ?_
    rintro e w' ⟨N, rfl, _, _, hB⟩
    exact ⟨_, _, rfl, hB⟩

set_option maxHeartbeats 4000000 in
set_option maxRecDepth 100000 in
theorem token_name (s : ByteArray) (hs : s.size ≤ 140737488355328) (hn : isNum s.data.toList = false) (w : World) :
    Calls Tryd.prog 45 #[.string s] w (RetTok (tokenR s.data.toList) w) := by
  have hc0 := fun w => number_calls s w
  rw [hn] at hc0
  have hc := Lib.hid hc0
  clear hc0
  have hz := Lib.size_eq s
  by_cases h32 : 32 < s.size
  · have hr : tokenR s.data.toList = (0, 0, 0, ⟨#[]⟩, 3) := by
      unfold tokenR one; rw [if_neg (by simp [hn]), if_pos (by omega)]
    rw [hr]
    have b1 : decide ((32 : Int) < (s.size : Int)) = true := decide_eq_true (by omega)
    clear hr hz hn
    go_enter Tryd.func45, Tryd.ntmps45
    go_wp2_with (go_at_call 60; refine (hc.out _).mono ?_; rintro e w' ⟨rfl, hB⟩; have HB : Below w.heap.size w w' := ((Below.refl _ _).alloc (Nat.le_refl _) _).trans (hB.mono (by simp)); obtain ⟨hcc, hff⟩ := bcell hB; have hz : w.heap.size < w'.heap.size := by have := hB.size; simp at this; omega)
    refine bodyPost_ret (v := .tuple #[.agg #[.int .u8 0, .int .i64 0, .int .i64 0, .string ⟨#[]⟩], .int .i64 3]) ?_ rfl ?_
    · simp [results, Tryd.results45, go_sem, hcc]
    · refine ⟨rfl, ?_⟩
      repeat (first | exact HB | refine Below.setCell ?_ (show w.heap.size ≤ w.heap.size from Nat.le_refl _) _)
  · have hr : tokenR s.data.toList = (6, 0, 0, s, 0) := by
      unfold tokenR one; rw [if_neg (by simp [hn]), if_neg (by omega)]
    rw [hr]
    have b1 : decide ((32 : Int) < (s.size : Int)) = false := decide_eq_false (by omega)
    clear hr hz hn
    go_enter Tryd.func45, Tryd.ntmps45
    go_wp2_with (go_at_call 60; refine (hc.out _).mono ?_; rintro e w' ⟨rfl, hB⟩; have HB : Below w.heap.size w w' := ((Below.refl _ _).alloc (Nat.le_refl _) _).trans (hB.mono (by simp)); obtain ⟨hcc, hff⟩ := bcell hB; have hz : w.heap.size < w'.heap.size := by have := hB.size; simp at this; omega)
    refine bodyPost_ret (v := .tuple #[.agg #[.int .u8 6, .int .i64 0, .int .i64 0, .string s], .int .i64 0]) ?_ rfl ?_
    · simp [results, Tryd.results45, go_sem, hcc]
    · refine ⟨rfl, ?_⟩
      repeat (first | exact HB | refine Below.setCell ?_ (show w.heap.size ≤ w.heap.size from Nat.le_refl _) _)

set_option maxHeartbeats 4000000 in
set_option maxRecDepth 100000 in
theorem token_long (s : ByteArray) (hs : s.size ≤ 140737488355328) (hn : isNum s.data.toList = true) (hl : 13 < s.size) (w : World) (hg : GoodW w) :
    Calls Tryd.prog 45 #[.string s] w (RetTok (tokenR s.data.toList) w) := by
  have hc0 := fun w => number_calls s w
  rw [hn] at hc0
  have hc := Lib.hid hc0
  have ha := Lib.hid (fun w => atoi_any s hs w)
  clear hc0
  have hz := Lib.size_eq s
  have hr : tokenR s.data.toList = (0, 0, 0, ⟨#[]⟩, 51) := by
    unfold tokenR one; rw [if_pos hn, if_pos (by omega)]
  rw [hr]
  have b1 : decide ((13 : Int) < (s.size : Int)) = true := decide_eq_true (by omega)
  clear hr hz hn
  go_enter Tryd.func45, Tryd.ntmps45
  go_wp2_with (first | (go_at_call 60; refine (hc.out _).mono ?_; rintro e w' ⟨rfl, hB⟩; have HB : Below w.heap.size w w' := ((Below.refl _ _).alloc (Nat.le_refl _) _).trans (hB.mono (by simp)); obtain ⟨hcc, hff⟩ := bcell hB; have hz : w.heap.size < w'.heap.size := by have := hB.size; simp at this; omega) | (go_at_call 61; refine (ha.out _ (hg.below HB)).mono ?_; rintro e w2 ⟨v, err, rfl, hB2⟩; have HB2 : Below w.heap.size w w2 := HB.trans (hB2.mono HB.size); obtain ⟨hcc2, hff2⟩ := bcell hB2; have hz2 : w.heap.size < w2.heap.size := Nat.lt_of_lt_of_le hz hB2.size; have hcc3 := hcc2 w.heap.size; have hff3 := hff2 w.heap.size; clear hcc2 hff2))
  refine bodyPost_ret (v := .tuple #[.agg #[.int .u8 0, .int .i64 0, .int .i64 0, .string ⟨#[]⟩], .int .i64 51]) ?_ rfl ?_
  · simp [results, Tryd.results45, go_sem, hcc, hcc3, hz]
  · refine ⟨rfl, ?_⟩
    repeat (first | exact HB2 | exact HB | refine Below.setCell ?_ (show w.heap.size ≤ w.heap.size from Nat.le_refl _) _)

set_option maxHeartbeats 4000000 in
set_option maxRecDepth 100000 in
theorem token_short (s : ByteArray) (hn : isNum s.data.toList = true) (hl : s.size ≤ 13) (w : World) :
    Calls Tryd.prog 45 #[.string s] w (RetTok (tokenR s.data.toList) w) := by
  have hc0 := fun w => number_calls s w
  rw [hn] at hc0
  have hc := Lib.hid hc0
  have hz := Lib.size_eq s
  have ha := Lib.hid (fun w => atoi_ok s (by omega) _ (atoi_num _ hn (by omega)) w)
  clear hc0
  generalize hv : val s.data.toList = v at ha
  have b1 : decide ((13 : Int) < (s.size : Int)) = false := decide_eq_false (by omega)
  by_cases h1 : v ≤ -1099511627776
  · have hr : tokenR s.data.toList = (0, 0, 0, ⟨#[]⟩, 51) := by
      unfold tokenR one; rw [if_pos hn, hv, if_pos (by omega)]
    rw [hr]
    have b2 : decide (v ≤ -1099511627776) = true := decide_eq_true h1
    clear hv
    clear hr hz hn
    go_enter Tryd.func45, Tryd.ntmps45
    go_wp2_with (first | (go_at_call 60; refine (hc.out _).mono ?_; rintro e w' ⟨rfl, hB⟩; have HB : Below w.heap.size w w' := ((Below.refl _ _).alloc (Nat.le_refl _) _).trans (hB.mono (by simp)); obtain ⟨hcc, hff⟩ := bcell hB; have hz : w.heap.size < w'.heap.size := by have := hB.size; simp at this; omega) | (go_at_call 61; refine (ha.out _).mono ?_; rintro e w2 ⟨rfl, hB2⟩; have HB2 : Below w.heap.size w w2 := HB.trans (hB2.mono HB.size); obtain ⟨hcc2, hff2⟩ := bcell hB2; have hz2 : w.heap.size < w2.heap.size := Nat.lt_of_lt_of_le hz hB2.size; have hcc3 := hcc2 w.heap.size; have hff3 := hff2 w.heap.size; clear hcc2 hff2))
    refine bodyPost_ret (v := .tuple #[.agg #[.int .u8 0, .int .i64 0, .int .i64 0, .string ⟨#[]⟩], .int .i64 51]) ?_ rfl ?_
    · simp [results, Tryd.results45, go_sem, hcc, hcc3, hz]
    · refine ⟨rfl, ?_⟩
      repeat (first | exact HB2 | exact HB | refine Below.setCell ?_ (show w.heap.size ≤ w.heap.size from Nat.le_refl _) _)
  by_cases h2 : 1099511627776 ≤ v
  · have hr : tokenR s.data.toList = (0, 0, 0, ⟨#[]⟩, 51) := by
      unfold tokenR one; rw [if_pos hn, hv, if_pos (by omega)]
    rw [hr]
    have b2 : decide (v ≤ -1099511627776) = false := decide_eq_false h1
    have b3 : decide (1099511627776 ≤ v) = true := decide_eq_true h2
    clear hv
    clear hr hz hn
    go_enter Tryd.func45, Tryd.ntmps45
    go_wp2_with (first | (go_at_call 60; refine (hc.out _).mono ?_; rintro e w' ⟨rfl, hB⟩; have HB : Below w.heap.size w w' := ((Below.refl _ _).alloc (Nat.le_refl _) _).trans (hB.mono (by simp)); obtain ⟨hcc, hff⟩ := bcell hB; have hz : w.heap.size < w'.heap.size := by have := hB.size; simp at this; omega) | (go_at_call 61; refine (ha.out _).mono ?_; rintro e w2 ⟨rfl, hB2⟩; have HB2 : Below w.heap.size w w2 := HB.trans (hB2.mono HB.size); obtain ⟨hcc2, hff2⟩ := bcell hB2; have hz2 : w.heap.size < w2.heap.size := Nat.lt_of_lt_of_le hz hB2.size; have hcc3 := hcc2 w.heap.size; have hff3 := hff2 w.heap.size; clear hcc2 hff2))
    refine bodyPost_ret (v := .tuple #[.agg #[.int .u8 0, .int .i64 0, .int .i64 0, .string ⟨#[]⟩], .int .i64 51]) ?_ rfl ?_
    · simp [results, Tryd.results45, go_sem, hcc, hcc3, hz]
    · refine ⟨rfl, ?_⟩
      repeat (first | exact HB2 | exact HB | refine Below.setCell ?_ (show w.heap.size ≤ w.heap.size from Nat.le_refl _) _)
  · have hr : tokenR s.data.toList = (4, 0, v, ⟨#[]⟩, 0) := by
      unfold tokenR one; rw [if_pos hn, hv, if_neg (by omega)]
    rw [hr]
    have b2 : decide (v ≤ -1099511627776) = false := decide_eq_false h1
    have b3 : decide (1099511627776 ≤ v) = false := decide_eq_false h2
    clear hv
    clear hr hz hn
    go_enter Tryd.func45, Tryd.ntmps45
    go_wp2_with (first | (go_at_call 60; refine (hc.out _).mono ?_; rintro e w' ⟨rfl, hB⟩; have HB : Below w.heap.size w w' := ((Below.refl _ _).alloc (Nat.le_refl _) _).trans (hB.mono (by simp)); obtain ⟨hcc, hff⟩ := bcell hB; have hz : w.heap.size < w'.heap.size := by have := hB.size; simp at this; omega) | (go_at_call 61; refine (ha.out _).mono ?_; rintro e w2 ⟨rfl, hB2⟩; have HB2 : Below w.heap.size w w2 := HB.trans (hB2.mono HB.size); obtain ⟨hcc2, hff2⟩ := bcell hB2; have hz2 : w.heap.size < w2.heap.size := Nat.lt_of_lt_of_le hz hB2.size; have hcc3 := hcc2 w.heap.size; have hff3 := hff2 w.heap.size; clear hcc2 hff2))
    refine bodyPost_ret (v := .tuple #[.agg #[.int .u8 4, .int .i64 0, .int .i64 v, .string ⟨#[]⟩], .int .i64 0]) ?_ rfl ?_
    · simp [results, Tryd.results45, go_sem, hcc, hcc3, hz]
    · refine ⟨rfl, ?_⟩
      repeat (first | exact HB2 | exact HB | refine Below.setCell ?_ (show w.heap.size ≤ w.heap.size from Nat.le_refl _) _)

theorem token_calls (s : ByteArray) (hs : s.size ≤ 140737488355328) (w : World) (hg : GoodW w) : Calls Tryd.prog 45 #[.string s] w (RetTok (tokenR s.data.toList) w) := by
  cases hn : isNum s.data.toList with
  | false => exact token_name s hs hn w
  | true =>
    by_cases hl : s.size ≤ 13
    · exact token_short s hn hl w
    · exact token_long s hs hn (by omega) w hg
end Go.Proofs.YthempkdgmobocaaDoorE
end
section
/- The walk of the reference's letter: is a byte a letter of a name. -/
namespace Go.Proofs.YthempkdgmobocaaDoorE
open Go Go.RowKit Go.Proofs.YthempkdgmobocaaDoorEd

theorem anyFrom (s : ByteArray) (c : Int) (i : Nat) (h : i < s.size) : (s.data.toList.drop i).any (fun x => decide ((x.toNat : Int) = c)) = (decide (((s[i]'h).toNat : Int) = c) || (s.data.toList.drop (i + 1)).any (fun x => decide ((x.toNat : Int) = c))) := by
  have h' : i < s.data.toList.length := by simpa using h
  rw [List.drop_eq_getElem_cons h']
  have : s.data.toList[i] = s[i] := by simp; rfl
  rw [this]
  rfl
theorem let_rest : ∀ n : Fin 256, ¬ (97 ≤ n.val ∧ n.val ≤ 122) → ¬ (65 ≤ n.val ∧ n.val ≤ 90) → ¬ (48 ≤ n.val ∧ n.val ≤ 57) → isLet (UInt8.ofNat n.val) = signs.data.toList.any (fun x => decide ((x.toNat : Int) = n.val)) := by decide +kernel
theorem let_yes : ∀ n : Fin 256, ((97 ≤ n.val ∧ n.val ≤ 122) ∨ (65 ≤ n.val ∧ n.val ≤ 90) ∨ (48 ≤ n.val ∧ n.val ≤ 57)) → isLet (UInt8.ofNat n.val) = true := by decide +kernel

def LetB (c : Int) : Bool := isLet (UInt8.ofNat c.toNat)
theorem letB_yes (c : Int) (h0 : 0 ≤ c) (h1 : c ≤ 255) (h : (97 ≤ c ∧ c ≤ 122) ∨ (65 ≤ c ∧ c ≤ 90) ∨ (48 ≤ c ∧ c ≤ 57)) : LetB c = true :=
  let_yes ⟨c.toNat, by omega⟩ (by simp only; omega)

set_option maxHeartbeats 4000000 in
set_option maxRecDepth 100000 in
theorem refLetter_calls (c : Int) (h0 : 0 ≤ c) (h1 : c ≤ 255) (w : World) :
    Calls Tryd.prog 33 #[.int .u8 c] w fun e w' => e = .returned (.bool (LetB c)) ∧ w = w' := by
  by_cases ha : 97 ≤ c ∧ c ≤ 122
  · have hr := Lib.hid (letB_yes c h0 h1 (by omega))
    obtain ⟨a1, a2⟩ := ha
    go_enter Tryd.func33, Tryd.ntmps33
    go_wp2
    all_goals go_ret
    all_goals exact ⟨ret_bool hr.out.symm, rfl⟩
  by_cases hb : 65 ≤ c ∧ c ≤ 90
  · have hr := Lib.hid (letB_yes c h0 h1 (by omega))
    obtain ⟨a1, a2⟩ := hb
    go_enter Tryd.func33, Tryd.ntmps33
    go_wp2
    all_goals go_ret
    all_goals exact ⟨ret_bool hr.out.symm, rfl⟩
  by_cases hc : 48 ≤ c ∧ c ≤ 57
  · have hr := Lib.hid (letB_yes c h0 h1 (by omega))
    obtain ⟨a1, a2⟩ := hc
    go_enter Tryd.func33, Tryd.ntmps33
    go_wp2
    all_goals go_ret
    all_goals exact ⟨ret_bool hr.out.symm, rfl⟩
  have hr0 : LetB c = signs.data.toList.any (fun x => decide ((x.toNat : Int) = c)) := by
    have := let_rest ⟨c.toNat, by omega⟩ (by simp only; omega) (by simp only; omega) (by simp only; omega)
    unfold LetB
    rw [this]
    simp only
    rw [show ((c.toNat : Nat) : Int) = c by omega]
  have hr := Lib.hid hr0
  clear hr0
  have hsz : signs.size ≤ 100 := by decide
  have hsg : (⟨#[33, 36, 37, 38, 42, 43, 45, 47, 58, 60, 61, 62, 63, 94, 95, 126]⟩ : ByteArray) = signs := rfl
  have HS := Lib.hid hsg
  clear hsg
  go_enter Tryd.func33, Tryd.ntmps33
  go_wp2
  all_goals rw [HS.out]
  all_goals generalize signs = sg at hr hsz
  all_goals clear HS
  all_goals (
   go_loop [2, 4] (fun _ i => ∃ k : Nat, k ≤ sg.size ∧ i = .int .i64 k ∧ Hid (LetB c = (sg.data.toList.drop k).any (fun x => decide ((x.toNat : Int) = c)))) (fun _ i => sg.size - (intOf i).toNat)
   case atStart => exact ⟨0, Nat.zero_le _, rfl, Lib.hid (by rw [hr.out]; rfl)⟩
   case round =>
    obtain ⟨k, hk, rfl, HP⟩ := hrel
    by_cases hlt : k < sg.size
    · have HA := Lib.hid (anyFrom sg c k hlt)
      by_cases he : ((sg[k]'hlt).toNat : Int) = c
      · have hf : LetB c = true := by rw [HP.out, HA.out]; simp [he]
        have HF := Lib.hid hf
        have hb : (((sg[k]'hlt).toNat : Int) == c) = true := beq_iff_eq.2 he
        clear hf he
        go_wp2
        go_ret
        exact ⟨ret_bool HF.out.symm, rfl⟩
      · have HN := Lib.hid (show LetB c = (sg.data.toList.drop (k + 1)).any (fun x => decide ((x.toNat : Int) = c)) by rw [HP.out, HA.out]; simp [he])
        have hb : (((sg[k]'hlt).toNat : Int) == c) = false := beq_eq_false_iff_ne.2 he
        clear he
        go_wp2
        go_round
        case rel => exact ⟨k + 1, by omega, by go_num, HN⟩
        case measure => simp [intOf]; omega
    · have hf : LetB c = false := by rw [HP.out, List.drop_of_length_le (by simp; omega)]; rfl
      have HF := Lib.hid hf
      clear hf
      go_wp2
      go_ret
      exact ⟨ret_bool HF.out.symm, rfl⟩)
end Go.Proofs.YthempkdgmobocaaDoorE
end
section
/- Contracts of lex.word, lex.passed, lex.token, strings.IndexByte in the form in which callers use them. -/
namespace Go.Proofs.YthempkdgmobocaaDoorX
open Go Go.RowKit Go.Proofs.YthempkdgmobocaaDoorEd Go.Proofs.YthempkdgmobocaaDoorE
def lex_word.f (a0 : ByteArray) : Option Int := if a0.size ≤ 140737488355328 then some (wlen a0.data.toList : Nat) else none
theorem lex_word.calls (a0 : ByteArray) (r : Int) (w : World) (h : lex_word.f a0 = some r) :
    Calls Tryd.prog 44 #[.string a0] w fun e w' => e = .returned (.int .i64 r) ∧ Below w.heap.size w w' := by
  unfold lex_word.f at h
  split at h
  · rename_i hs
    cases h
    exact word_calls a0 (by unfold maxLen; omega) w
  · cases h
def lex_passed.f (a0 : ByteArray) : Option Int := if a0.size ≤ 140737488355328 then some ((a0.size : Int) - ((left a0.data.toList).length : Nat)) else none
theorem lex_passed.calls (a0 : ByteArray) (r : Int) (w : World) (h : lex_passed.f a0 = some r) :
    Calls Tryd.prog 29 #[.string a0] w fun e w' => e = .returned (.int .i64 r) ∧ Below w.heap.size w w' := by
  unfold lex_passed.f at h
  split at h
  · rename_i hs
    cases h
    exact passed_calls a0 (by unfold maxLen; omega) w
  · cases h
def lex_token.f (a0 : ByteArray) : Option (Int × Int × Int × ByteArray × Int) := if a0.size ≤ 140737488355328 then some (tokenR a0.data.toList) else none
theorem lex_token.calls (a0 : ByteArray) (r1 : Int) (r2 : Int) (r3 : Int) (r4 : ByteArray) (r5 : Int) (w : World) (hG : GoodW w) (h : lex_token.f a0 = some (r1, r2, r3, r4, r5)) :
    Calls Tryd.prog 45 #[.string a0] w fun e w' => e = .returned (.tuple #[.agg #[.int .u8 r1, .int .i64 r2, .int .i64 r3, .string r4], .int .i64 r5]) ∧ Below w.heap.size w w' := by
  unfold lex_token.f at h
  split at h
  · rename_i hs
    have h2 := Option.some.inj h
    have := token_calls a0 hs w hG
    rw [h2] at this
    exact this
  · cases h
def strings_IndexByte.f (a0 : ByteArray) (a1 : Int) : Option Int := some (Lib.indexByte a0.data.toList a1.toNat.toUInt8)
theorem strings_IndexByte.calls (a0 : ByteArray) (a1 : Int) (r : Int) (w : World) (h : strings_IndexByte.f a0 a1 = some r) :
    Calls Tryd.prog 43 #[.string a0, .int .u8 a1] w fun e w' => e = .returned (.int .i64 r) ∧ Below w.heap.size w w' := by
  cases h
  exact (Tryd.strings_IndexByte a0 a1 w).mono (by rintro e w' ⟨rfl, rfl⟩; exact ⟨rfl, Below.refl _ _⟩)
def ref05_letter.f (a0 : Int) : Option Bool := if 0 ≤ a0 ∧ a0 ≤ 255 then some (LetB a0) else none
theorem ref05_letter.calls (a0 : Int) (r : Bool) (w : World) (h : ref05_letter.f a0 = some r) :
    Calls Tryd.prog 33 #[.int .u8 a0] w fun e w' => e = .returned (.bool r) ∧ Below w.heap.size w w' := by
  unfold ref05_letter.f at h
  split at h
  · rename_i hs
    cases h
    exact (refLetter_calls a0 hs.1 hs.2 w).mono (by rintro e w' ⟨rfl, rfl⟩; exact ⟨rfl, Below.refl _ _⟩)
  · cases h
end Go.Proofs.YthempkdgmobocaaDoorX
end
section
/- Small words for the walks. -/
namespace Go.Proofs.YthempkdgmobocaaDoorE
open Go Go.RowKit
theorem cell_again (w : World) (a : Addr) (v : Value) : (w.setCell a v).cell? a = (w.cell? a).map fun _ => v := by
  simp only [World.setCell, World.cell?, Array.getElem?_modify, if_true]
  cases hh : w.heap[a.block]? with
  | none => rfl
  | some x =>
    cases x <;> simp
    cases hs : a.spot with
    | some _ => simp
    | none =>
      simp only [Option.isSome_none, Bool.false_eq_true, if_false]
      rename_i c _ _
      by_cases hc : a.off < c.size
      · simp [hc]
      · simp [hc]
theorem map_some' {α β : Type} (f : α → β) (x : α) : Option.map f (some x) = some (f x) := rfl
end Go.Proofs.YthempkdgmobocaaDoorE
end
