/- The walks of lex.number and lex.passed: what they come to, in the words of the plain law. -/
import Derived.Test.YthempkdgmobocaaDoorE2
import Derived.Lib.IndexLaws
import Derived.RegionTactic
namespace Go.Proofs.YthempkdgmobocaaDoorE
open Go Go.RowKit Go.Proofs.YthempkdgmobocaaDoorEd

theorem isNum_trim (l : List UInt8) : isNum l = (!(Lib.trimPrefix l [45]).isEmpty && (Lib.trimPrefix l [45]).all isDig) := by
  unfold isNum
  split
  · simp [Lib.trimPrefix, Lib.hasPrefix]
  · rename_i h
    have : Lib.hasPrefix l [45] = false := by
      cases l with
      | nil => rfl
      | cons c r =>
        have : c ≠ 45 := fun e => h r (by rw [e])
        simp [Lib.hasPrefix, List.isPrefixOf]
        exact fun e => this e.symm
    simp [Lib.trimPrefix, this]
theorem isDig_nat (c : UInt8) : isDig c = (decide (48 ≤ c.toNat) && decide (c.toNat ≤ 57)) := by
  simp [isDig, UInt8.le_iff_toNat_le]

theorem all_drop_yes (s : ByteArray) (pos : Nat) (h : pos < s.size) (hl : isDig (s[pos]'h) = true) : (s.data.toList.drop pos).all isDig = (s.data.toList.drop (pos + 1)).all isDig := by
  have h' : pos < s.data.toList.length := by simpa using h
  rw [List.drop_eq_getElem_cons h']
  have : s.data.toList[pos] = s[pos] := by simp; rfl
  rw [this]
  simp [hl]
theorem all_drop_no (s : ByteArray) (pos : Nat) (h : pos < s.size) (hl : isDig (s[pos]'h) = false) : (s.data.toList.drop pos).all isDig = false := by
  have h' : pos < s.data.toList.length := by simpa using h
  rw [List.drop_eq_getElem_cons h']
  have : s.data.toList[pos] = s[pos] := by simp; rfl
  rw [this]
  simp [hl]

set_option maxHeartbeats 4000000 in
set_option maxRecDepth 100000 in
theorem number_calls (s0 : ByteArray) (w : World) :
    Calls Tryd.prog 60 #[.string s0] w fun e w' => e = .returned (.bool (isNum s0.data.toList)) ∧ Below w.heap.size w w' := by
  have hc := Tryd.strings_TrimPrefix s0 ⟨#[45]⟩ w
  have hn := isNum_trim s0.data.toList
  generalize hs : (⟨(Lib.trimPrefix s0.data.toList [45]).toArray⟩ : ByteArray) = s
  have hl : Lib.trimPrefix s0.data.toList [45] = s.data.toList := by rw [← hs]
  have hc2 : Calls Tryd.prog 67 #[.string s0, .string ⟨#[45]⟩] w fun e w' => e = .returned (.string s) ∧ w = w' := by rw [← hs]; exact hc.mono fun _ _ h => ⟨h.1, h.2.symm⟩
  rw [hl] at hn
  have HN := Lib.hid hn
  clear hn hc hs hl
  generalize isNum s0.data.toList = b at HN ⊢
  go_enter Tryd.func60, Tryd.ntmps60
  go_wp2_with (go_at_call 67; refine hc2.mono ?_; rintro e w' ⟨rfl, rfl⟩)
  go_loopw [2, 4] (fun _ _ w' => ∃ pos : Nat, w' = w.iter s pos ∧ pos ≤ s.size ∧ Hid (s.data.toList.all isDig = (s.data.toList.drop pos).all isDig)) (fun _ _ w' => s.size - w'.iterPos w.heap.size)
  case atStart => exact ⟨0, rfl, Nat.zero_le _, Lib.hid (by simp)⟩
  case round =>
    obtain ⟨pos, rfl, hle, HP⟩ := hrel
    by_cases hp : pos < s.size
    · by_cases ha : (s[pos]'hp).toNat < 128
      · have hnx : ∀ ty, (Instr.next (.pointer (some ⟨w.heap.size, 0, none⟩)) true ty).run Tryd.prog (w.iter s pos) = _ := fun ty => run_next_ascii w s pos ty hp ha
        have hdig := isDig_nat (s[pos]'hp)
        cases hl : isDig (s[pos]'hp) with
        | true =>
          rw [hl] at hdig
          have h2 : 48 ≤ (s[pos]'hp).toNat ∧ (s[pos]'hp).toNat ≤ 57 := by simpa using hdig.symm
          obtain ⟨h3, h4⟩ := h2
          have b1 : decide (((s[pos]'hp).toNat : Int) < 48) = false := decide_eq_false (by omega)
          have b2 : decide ((57 : Int) < ((s[pos]'hp).toNat : Int)) = false := decide_eq_false (by omega)
          have HW := Lib.hid (all_drop_yes s pos hp hl)
          clear hdig hl
          go_wp2
          go_roundw
          case rel => exact ⟨pos + 1, rfl, by omega, Lib.hid (by rw [HP.out, HW.out])⟩
          case measure => simp; omega
        | false =>
          have HW := Lib.hid (all_drop_no s pos hp hl)
          rw [hl] at hdig
          have hf : b = false := by rw [HN.out, HP.out, HW.out]; simp
          subst hf
          by_cases h48 : (s[pos]'hp).toNat < 48
          · have b1 : decide (((s[pos]'hp).toNat : Int) < 48) = true := decide_eq_true (by omega)
            clear hdig hl
            go_wp2
            go_ret
            exact ⟨rfl, (Below.refl _ _).alloc (Nat.le_refl _) _⟩
          · have b1 : decide (((s[pos]'hp).toNat : Int) < 48) = false := decide_eq_false (by omega)
            have h5 : ¬ (s[pos]'hp).toNat ≤ 57 := by
              intro h5
              simp [h5] at hdig; omega
            have b2 : decide ((57 : Int) < ((s[pos]'hp).toNat : Int)) = true := decide_eq_true (by omega)
            clear hdig hl
            go_wp2
            go_ret
            exact ⟨rfl, (Below.refl _ _).alloc (Nat.le_refl _) _⟩
      · have hh := decode_high s pos hp (by omega)
        have hdig := isDig_nat (s[pos]'hp)
        have hf : isDig (s[pos]'hp) = false := by rw [hdig]; simp; omega
        have HW := Lib.hid (all_drop_no s pos hp hf)
        have hnx : ∀ ty, (Instr.next (.pointer (some ⟨w.heap.size, 0, none⟩)) true ty).run Tryd.prog (w.iter s pos) = _ := fun ty => run_next_any w s pos ty hp
        generalize Utf8.decode s pos = d at hh hnx
        obtain ⟨r, k⟩ := d
        simp only at hh hnx
        obtain ⟨hr, hk⟩ := hh
        have hf2 : b = false := by rw [HN.out, HP.out, HW.out]; simp
        subst hf2
        have b1 : decide ((r : Int) < 48) = false := decide_eq_false (by omega)
        have b2 : decide ((57 : Int) < (r : Int)) = true := decide_eq_true (by omega)
        clear hdig hf
        go_wp2
        go_ret
        exact ⟨rfl, (Below.refl _ _).alloc (Nat.le_refl _) _⟩
    · have hnx : ∀ ty, (Instr.next (.pointer (some ⟨w.heap.size, 0, none⟩)) true ty).run Tryd.prog (w.iter s pos) = _ := fun ty => run_next_end w s pos ty hp
      have hb : b = !s.data.toList.isEmpty := by
        rw [HN.out, HP.out, List.drop_of_length_le (by simp; omega)]; simp
      have HB := Lib.hid hb
      clear hb
      go_wp2
      go_ret
      refine ⟨ret_bool ?_, (Below.refl _ _).alloc (Nat.le_refl _) _⟩
      rw [HB.out]
      rw [Lib.toList_data]

theorem dropWhile_none (l : List UInt8) (h : ∀ k : Nat, l[k]? ≠ some 10) : l.dropWhile (· != 10) = [] :=
  dropWhile_all _ _ fun x hx => by
    obtain ⟨i, hi, rfl⟩ := List.getElem_of_mem hx
    have := h i
    rw [List.getElem?_eq_getElem hi] at this
    simpa using fun e => this (congrArg some e)
theorem dropWhile_at (l : List UInt8) (i : Nat) (h1 : l[i]? = some 10) (h2 : ∀ k, k < i → l[k]? ≠ some 10) : l.dropWhile (· != 10) = l.drop i := by
  induction l generalizing i with
  | nil => simp at h1
  | cons c r ih =>
    cases i with
    | zero =>
      have : c = 10 := by simpa using h1
      subst this
      rfl
    | succ i =>
      have hc : c ≠ 10 := by have := h2 0 (by omega); simpa using this
      have e : (c != 10) = true := by simpa using hc
      simp only [List.dropWhile, e, List.drop_succ_cons]
      exact ih i (by simpa using h1) fun k hk => by have := h2 (k + 1) (by omega); simpa using this

/-- what stands behind the first newline. -/
def tailNl (l : List UInt8) : List UInt8 := (l.dropWhile (· != 10)).drop 1
def RetCut (s : ByteArray) (w : World) (e : Ending) (w' : World) : Prop := ∃ b f, e = .returned (.tuple #[.string b, .string ⟨(tailNl s.data.toList).toArray⟩, .bool f]) ∧ Below w.heap.size w w'

set_option maxHeartbeats 4000000 in
set_option maxRecDepth 100000 in
theorem scut_calls (s : ByteArray) (hs : s.size ≤ maxLen) (w : World) : Calls Tryd.prog 57 #[.string s, .string ⟨#[10]⟩] w (RetCut s w) := by
  unfold maxLen at hs
  have hi := Tryd.stringslite_Index_one s 10 w
  rcases Int.lt_or_le (Lib.indexByte s.data.toList 10) 0 with h | h
  · have h1 : Lib.indexByte s.data.toList 10 = -1 := by have := Lib.indexByte_ge s.data.toList 10; omega
    have e1 : tailNl s.data.toList = [] := by unfold tailNl; rw [dropWhile_none _ (Lib.indexByte_none h1)]; rfl
    rw [h1] at hi
    clear h h1
    have H1 := Lib.hid e1
    clear e1
    go_enter Tryd.func57, Tryd.ntmps57
    go_wp2_with (go_at_call 65; refine hi.mono ?_; rintro e w' ⟨rfl, rfl⟩)
    go_ret3
    exact ⟨s, false, by rw [H1.out]; rfl, Below.refl _ _⟩
  · obtain ⟨i, hi2⟩ := Int.eq_ofNat_of_zero_le h
    have h2 := Lib.indexByte_some hi2
    have hlt : i < s.size := by
      have := h2.1
      rw [List.getElem?_eq_some_iff] at this
      obtain ⟨h, _⟩ := this
      simpa using h
    have e1 : (⟨(tailNl s.data.toList).toArray⟩ : ByteArray) = s.extract (i + 1) s.size := by
      unfold tailNl
      rw [dropWhile_at _ i h2.1 h2.2, List.drop_drop, Lib.extract_eq, List.take_of_length_le (by simp)]
    rw [hi2] at hi
    clear h h2 hi2
    have H1 := Lib.hid e1
    clear e1
    have c1 : (0 : Int) ≤ ↑i := by omega
    have c2 : (↑i : Int) ≤ ↑s.size := by omega
    have c3 : (0 : Int) ≤ ↑i + 1 := by omega
    have c4 : (↑i + 1 : Int) ≤ ↑s.size := by omega
    go_enter Tryd.func57, Tryd.ntmps57
    go_wp2_with (go_at_call 65; refine hi.mono ?_; rintro e w' ⟨rfl, rfl⟩)
    go_region
    all_goals go_wp2
    all_goals go_ret3
    all_goals exact ⟨s.extract 0 i, true, by rw [H1.out]; rfl, (Below.refl _ _).drew⟩

set_option maxHeartbeats 4000000 in
theorem cut_calls (s : ByteArray) (hs : s.size ≤ maxLen) (w : World) : Calls Tryd.prog 42 #[.string s, .string ⟨#[10]⟩] w (RetCut s w) := by
  have hc := scut_calls s hs
  have HC := Lib.hid hc
  clear hc
  go_enter Tryd.func42, Tryd.ntmps42
  go_wp2_with (go_at_call 57; refine (HC.out _).mono ?_; rintro e w' ⟨b, f, rfl, hB⟩)
  go_ret3
  exact ⟨b, f, rfl, hB⟩
end Go.Proofs.YthempkdgmobocaaDoorE
