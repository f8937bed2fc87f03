/- The walks of lex.letter, lex.word, lex.number, lex.passed: what they come to, in the words of the plain law. -/
import Derived.Test.YthempkdgmobocaaDoorE1
import Derived.Test.YthempkdgmobocaaDoorM3
namespace Go.Proofs.YthempkdgmobocaaDoorE
open Go Go.RowKit Go.Proofs.YthempkdgmobocaaDoorEd

def signs : ByteArray := ⟨#[33, 36, 37, 38, 42, 43, 45, 47, 58, 60, 61, 62, 63, 94, 95, 126]⟩
theorem signs_ascii : ∀ i (hi : i < signs.size), (signs[i]'hi).toNat < 128 := by decide

/-- is a rune a letter of a name. -/
def letR (r : Int) : Bool := decide (0 ≤ r) && decide (r < 128) && isLet r.toNat.toUInt8

set_option maxHeartbeats 2000000 in
set_option maxRecDepth 100000 in
theorem containsRune_signs (r : Int) (h0 : 0 ≤ r) (h1 : r ≤ 1114111) (w : World) :
    Calls Tryd.prog 64 #[.string signs, .int .i32 r] w fun e w' => e = .returned (.bool (decide (r < 128) && decide (0 ≤ Lib.indexByte signs.data.toList r.toNat.toUInt8))) ∧ Below w.heap.size w w' := by
  by_cases h : r < 128
  · refine (Tryd.strings_ContainsRune_ascii signs r w h0 h).mono ?_
    rintro e w' ⟨rfl, rfl⟩
    exact ⟨by simp [h], Below.refl _ _⟩
  · have hd : decide (r < 128) = false := decide_eq_false h
    rw [hd]
    have key : Calls Tryd.prog 71 #[.string signs, .int .i32 r] w fun e w' => e = .returned (.int .i64 (-1)) ∧ Below w.heap.size w w' := by
      by_cases he : r = 65533
      · subst he; exact indexRune_err signs signs_ascii w
      · exact indexRune_high signs (by decide) (by decide) signs_ascii r (by omega) h1 he w
    clear hd
    generalize signs = sg at key ⊢
    go_enter Tryd.func64, Tryd.ntmps64
    go_wp2_with (go_at_call 71; refine key.mono ?_; rintro e w' ⟨rfl, hB⟩)
    go_ret
    exact ⟨rfl, hB⟩

theorem letR_tab : ∀ n : Fin 128, letR (n.val : Int) = ((97 ≤ n.val && n.val ≤ 122) || (65 ≤ n.val && n.val ≤ 90) || (48 ≤ n.val && n.val ≤ 57) || decide (0 ≤ Lib.indexByte signs.data.toList n.val.toUInt8)) := by decide +kernel
theorem letR_at (r : Int) (h0 : 0 ≤ r) (h1 : r < 128) : letR r = ((decide (97 ≤ r) && decide (r ≤ 122)) || (decide (65 ≤ r) && decide (r ≤ 90)) || (decide (48 ≤ r) && decide (r ≤ 57)) || decide (0 ≤ Lib.indexByte signs.data.toList r.toNat.toUInt8)) := by
  obtain ⟨n, rfl⟩ := Int.eq_ofNat_of_zero_le h0
  have := letR_tab ⟨n, by omega⟩
  rw [Int.toNat_natCast]
  have e97 : decide ((97 : Int) ≤ (n : Int)) = decide (97 ≤ n) := decide_eq_decide.2 (by omega)
  have e65 : decide ((65 : Int) ≤ (n : Int)) = decide (65 ≤ n) := decide_eq_decide.2 (by omega)
  have e48 : decide ((48 : Int) ≤ (n : Int)) = decide (48 ≤ n) := decide_eq_decide.2 (by omega)
  have e122 : decide ((n : Int) ≤ (122 : Int)) = decide (n ≤ 122) := decide_eq_decide.2 (by omega)
  have e90 : decide ((n : Int) ≤ (90 : Int)) = decide (n ≤ 90) := decide_eq_decide.2 (by omega)
  have e57 : decide ((n : Int) ≤ (57 : Int)) = decide (n ≤ 57) := decide_eq_decide.2 (by omega)
  rw [e97, e65, e48, e122, e90, e57]
  exact this
theorem letR_yes (r : Int) (h : (97 ≤ r ∧ r ≤ 122) ∨ (65 ≤ r ∧ r ≤ 90) ∨ (48 ≤ r ∧ r ≤ 57)) : letR r = true := by
  rw [letR_at r (by omega) (by omega)]
  rcases h with ⟨a, b⟩ | ⟨a, b⟩ | ⟨a, b⟩ <;> simp [a, b]
theorem letR_no (r : Int) (h0 : 0 ≤ r) (ha : ¬ (97 ≤ r ∧ r ≤ 122)) (hb : ¬ (65 ≤ r ∧ r ≤ 90)) (hc : ¬ (48 ≤ r ∧ r ≤ 57)) :
    letR r = (decide (r < 128) && decide (0 ≤ Lib.indexByte signs.data.toList r.toNat.toUInt8)) := by
  by_cases h : r < 128
  · have e1 : (decide (97 ≤ r) && decide (r ≤ 122)) = false := by simp; omega
    have e2 : (decide (65 ≤ r) && decide (r ≤ 90)) = false := by simp; omega
    have e3 : (decide (48 ≤ r) && decide (r ≤ 57)) = false := by simp; omega
    rw [letR_at r h0 h, e1, e2, e3]; simp [h]
  · simp [letR, h]

theorem ret_bool {a b : Bool} (h : a = b) : Ending.returned (.bool a) = .returned (.bool b) := by rw [h]
theorem ret_i64 {a b : Int} (h : a = b) : Ending.returned (.int .i64 a) = .returned (.int .i64 b) := by rw [h]
def RetLet (R : World → World → Prop) (r : Int) (w : World) (e : Ending) (w' : World) : Prop := e = .returned (.bool (letR r)) ∧ R w w'
theorem retLet_yes {R : World → World → Prop} {r : Int} {w w' : World} (h : (97 ≤ r ∧ r ≤ 122) ∨ (65 ≤ r ∧ r ≤ 90) ∨ (48 ≤ r ∧ r ≤ 57)) (hw : R w w') : RetLet R r w (.returned (.bool true)) w' :=
  ⟨by rw [letR_yes r h], hw⟩

set_option maxHeartbeats 4000000 in
set_option maxRecDepth 100000 in
theorem letter_of (R : World → World → Prop) (hR : ∀ w, R w w) (r : Int) (h0 : 0 ≤ r)
    (key0 : ∀ w, Calls Tryd.prog 64 #[.string signs, .int .i32 r] w fun e w' => e = .returned (.bool (decide (r < 128) && decide (0 ≤ Lib.indexByte signs.data.toList r.toNat.toUInt8))) ∧ R w w') (w : World) :
    Calls Tryd.prog 59 #[.int .i32 r] w (RetLet R r w) := by
  have key := Lib.hid key0
  have HR := Lib.hid hR
  clear key0 hR
  by_cases ha : 97 ≤ r ∧ r ≤ 122
  · obtain ⟨a1, a2⟩ := ha
    go_enter Tryd.func59, Tryd.ntmps59
    go_wp2
    go_ret
    exact retLet_yes (by omega) (HR.out _)
  by_cases hb : 65 ≤ r ∧ r ≤ 90
  · obtain ⟨a1, a2⟩ := hb
    go_enter Tryd.func59, Tryd.ntmps59
    go_wp2
    all_goals go_ret
    all_goals exact retLet_yes (by omega) (HR.out _)
  by_cases hc : 48 ≤ r ∧ r ≤ 57
  · obtain ⟨a1, a2⟩ := hc
    go_enter Tryd.func59, Tryd.ntmps59
    go_wp2
    all_goals go_ret
    all_goals exact retLet_yes (by omega) (HR.out _)
  have hfin := letR_no r h0 ha hb hc
  have HF := Lib.hid hfin
  clear hfin
  go_enter Tryd.func59, Tryd.ntmps59
  go_wp2_with (go_at_call 64; refine (key.out _).mono ?_; rintro e w' ⟨rfl, hB⟩)
  all_goals go_ret
  all_goals refine ⟨ret_bool ?_, hB⟩
  all_goals rw [HF.out]
  all_goals rw [Bool.eq_iff_iff]
  all_goals simp
  all_goals omega
theorem letter_calls (r : Int) (h0 : 0 ≤ r) (h1 : r ≤ 1114111) (w : World) : Calls Tryd.prog 59 #[.int .i32 r] w (RetLet (fun w w' => Below w.heap.size w w') r w) :=
  letter_of _ (fun _ => Below.refl _ _) r h0 (fun w => containsRune_signs r h0 h1 w) w
theorem letter_ascii (r : Int) (h0 : 0 ≤ r) (h1 : r < 128) (w : World) : Calls Tryd.prog 59 #[.int .i32 r] w (RetLet (fun w w' => w' = w) r w) :=
  letter_of (fun w w' => w' = w) (fun _ => rfl) r h0 (fun w => (Tryd.strings_ContainsRune_ascii signs r w h0 h1).mono (by rintro e w' ⟨rfl, rfl⟩; exact ⟨by simp [h1], rfl⟩)) w

theorem decode_le' (s : ByteArray) (pos : Nat) : (Utf8.decode s pos).1 ≤ 1114111 := by
  have hb : ∀ k, (s.get! (pos + k)).toNat < 256 := fun k => (s.get! (pos + k)).toNat_lt
  have h0 := hb 0; have h1 := hb 1; have h2 := hb 2; have h3 := hb 3
  simp only [Utf8.decode]
  repeat' split
  all_goals simp_all [Utf8.runeError, Utf8.valid]
  all_goals omega

theorem isLet_high (c : UInt8) (h : 128 ≤ c.toNat) : isLet c = false := by
  have : ∀ n : Fin 256, 128 ≤ n.val → isLet (UInt8.ofNat n.val) = false := by decide +kernel
  have := this ⟨c.toNat, c.toNat_lt⟩ h
  simpa using this

/-- how many bytes the word at the head of a text has. -/
def wlen (l : List UInt8) : Nat := (l.takeWhile isLet).length
theorem wlen_drop_yes (s : ByteArray) (pos : Nat) (h : pos < s.size) (hl : isLet (s[pos]'h) = true) : wlen (s.data.toList.drop pos) = 1 + wlen (s.data.toList.drop (pos + 1)) := by
  have h' : pos < s.data.toList.length := by simpa using h
  rw [List.drop_eq_getElem_cons h']
  have : s.data.toList[pos] = s[pos] := by simp; rfl
  rw [this]
  simp only [wlen, List.takeWhile, hl, List.length_cons]; omega
theorem wlen_drop_no (s : ByteArray) (pos : Nat) (h : pos < s.size) (hl : isLet (s[pos]'h) = false) : wlen (s.data.toList.drop pos) = 0 := by
  have h' : pos < s.data.toList.length := by simpa using h
  rw [List.drop_eq_getElem_cons h']
  have : s.data.toList[pos] = s[pos] := by simp; rfl
  rw [this]
  simp [wlen, List.takeWhile, hl]

set_option maxHeartbeats 4000000 in
set_option maxRecDepth 100000 in
theorem word_calls (s : ByteArray) (hs : s.size ≤ maxLen) (w : World) :
    Calls Tryd.prog 44 #[.string s] w fun e w' => e = .returned (.int .i64 (wlen s.data.toList : Nat)) ∧ Below w.heap.size w w' := by
  unfold maxLen at hs
  have hgoal : ∃ n : Nat, n = wlen s.data.toList := ⟨_, rfl⟩
  obtain ⟨n, hn⟩ := hgoal
  rw [← hn]
  have HN := Lib.hid hn
  clear hn
  go_enter Tryd.func44, Tryd.ntmps44
  go_wp2
  go_loopw [2, 3, 4] (fun _ _ _ w' => ∃ pos : Nat, w' = w.iter s pos ∧ pos ≤ s.size ∧ Hid (n = pos + wlen (s.data.toList.drop pos))) (fun _ _ _ w' => s.size - w'.iterPos w.heap.size)
  case atStart => exact ⟨0, rfl, Nat.zero_le _, Lib.hid (by rw [HN.out]; simp)⟩
  case round =>
    obtain ⟨pos, rfl, hle, HP⟩ := hrel
    by_cases hp : pos < s.size
    · by_cases ha : (s[pos]'hp).toNat < 128
      · have hd := decode_ascii s pos hp ha
        have hnx : ∀ ty, (Instr.next (.pointer (some ⟨w.heap.size, 0, none⟩)) true ty).run Tryd.prog (w.iter s pos) = _ := fun ty => run_next_ascii w s pos ty hp ha
        clear hd
        have hlet : letR ((s[pos]'hp).toNat : Int) = isLet (s[pos]'hp) := by
          simp [letR]; intro _; omega
        cases hl : isLet (s[pos]'hp) with
        | true =>
          rw [hl] at hlet
          have HL := Lib.hid hlet
          have HW := Lib.hid (wlen_drop_yes s pos hp hl)
          clear hlet hl
          go_wp2_with (go_at_call 59; refine (letter_ascii _ (by omega) (by omega) _).mono ?_; rintro e w' ⟨rfl, rfl⟩; rw [HL.out])
          go_roundw
          case rel => exact ⟨pos + 1, rfl, by omega, Lib.hid (by rw [HP.out, HW.out]; omega)⟩
          case measure => simp; omega
        | false =>
          rw [hl] at hlet
          have HL := Lib.hid hlet
          have HW := Lib.hid (wlen_drop_no s pos hp hl)
          clear hlet hl
          go_wp2_with (go_at_call 59; refine (letter_ascii _ (by omega) (by omega) _).mono ?_; rintro e w' ⟨rfl, rfl⟩; rw [HL.out])
          go_ret
          exact ⟨ret_i64 (by rw [HP.out, HW.out]; omega), (Below.refl _ _).alloc (Nat.le_refl _) _⟩
      · have hh := decode_high s pos hp (by omega)
        have hu := decode_le' s pos
        have hnx : ∀ ty, (Instr.next (.pointer (some ⟨w.heap.size, 0, none⟩)) true ty).run Tryd.prog (w.iter s pos) = _ := fun ty => run_next_any w s pos ty hp
        generalize Utf8.decode s pos = d at hh hu hnx
        obtain ⟨r, k⟩ := d
        simp only at hh hu hnx
        obtain ⟨hr, hk⟩ := hh
        have hlet : letR (r : Int) = false := by simp [letR]; omega
        have HL := Lib.hid hlet
        have HW := Lib.hid (wlen_drop_no s pos hp (isLet_high _ (by omega)))
        clear hlet
        go_wp2_with (go_at_call 59; refine (letter_calls _ (by omega) (by omega) _).mono ?_; rintro e w' ⟨rfl, hB⟩; rw [HL.out])
        go_ret
        refine ⟨ret_i64 (by rw [HP.out, HW.out]; omega), ?_⟩
        have h1 : Below w.heap.size w (w.iter s (pos + k)) := (Below.refl _ _).alloc (Nat.le_refl _) _
        exact h1.trans (hB.mono (by simp [World.iter]))
    · have hnx : ∀ ty, (Instr.next (.pointer (some ⟨w.heap.size, 0, none⟩)) true ty).run Tryd.prog (w.iter s pos) = _ := fun ty => run_next_end w s pos ty hp
      go_wp2
      go_ret
      refine ⟨ret_i64 ?_, (Below.refl _ _).alloc (Nat.le_refl _) _⟩
      rw [HP.out, List.drop_of_length_le (by simp; omega)]
      simp [wlen]; omega
end Go.Proofs.YthempkdgmobocaaDoorE
