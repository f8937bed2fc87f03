/- The walk of lex.passed: what it comes to, in the words of the plain law. -/
import Derived.Test.YthempkdgmobocaaDoorE3
namespace Go.Proofs.YthempkdgmobocaaDoorE
open Go Go.RowKit Go.Proofs.YthempkdgmobocaaDoorEd

def blanks : ByteArray := ⟨#[32, 9, 10]⟩
theorem trim_calls (s : ByteArray) (w : World) :
    Calls Tryd.prog 40 #[.string s, .string blanks] w fun e w' => e = .returned (.string ⟨(s.data.toList.dropWhile isBlank).toArray⟩) ∧ Below w.heap.size w w' := by
  have h := Any.strings_TrimLeft_laid Tryd.lays161 (by kernel_rfl) s blanks w (by decide) (ascii_of_all (by decide))
  have e : Lib.trimLeftS s.data.toList blanks.data.toList = s.data.toList.dropWhile isBlank := by
    unfold Lib.trimLeftS
    congr 1
    funext c
    simp only [blanks, isBlank, List.contains, List.elem]
    cases c == 32 <;> cases c == 9 <;> cases c == 10 <;> rfl
  have h2 : Calls Tryd.prog 40 #[.string s, .string blanks] w fun e w' => e = .returned (.string ⟨(Lib.trimLeftS s.data.toList blanks.data.toList).toArray⟩) ∧ Below w.heap.size w w' := h
  rw [e] at h2
  exact h2

/-- what is left behind blanks and remarks. -/
def skipF : Nat → List UInt8 → List UInt8
  | 0, t => t
  | f + 1, t => if Lib.hasPrefix t [59] then skipF f ((tailNl t).dropWhile isBlank) else t
def left (l : List UInt8) : List UInt8 := skipF (l.length + 1) (l.dropWhile isBlank)
theorem tailNl_lt (t : List UInt8) (h : Lib.hasPrefix t [59] = true) : (tailNl t).length < t.length := by
  unfold tailNl
  have := dropWhile_le (· != 10) t
  cases t with
  | nil => simp [Lib.hasPrefix] at h
  | cons c r => simp only [List.length_drop, List.length_cons] at this ⊢; omega
theorem skipF_le (f : Nat) (t : List UInt8) : (skipF f t).length ≤ t.length := by
  induction f generalizing t with
  | zero => exact Nat.le_refl _
  | succ f ih =>
    unfold skipF
    split
    · rename_i h
      have := ih ((tailNl t).dropWhile isBlank)
      have := dropWhile_le isBlank (tailNl t)
      have := tailNl_lt t h
      omega
    · exact Nat.le_refl _
theorem left_le (l : List UInt8) : (left l).length ≤ l.length := Nat.le_trans (skipF_le _ _) (dropWhile_le _ _)

def strLen : Value → Nat | .string s => s.size | _ => 0

set_option maxHeartbeats 4000000 in
set_option maxRecDepth 100000 in
theorem passed_calls (s : ByteArray) (hs : s.size ≤ maxLen) (w : World) :
    Calls Tryd.prog 29 #[.string s] w fun e w' => e = .returned (.int .i64 ((s.size : Int) - ((left s.data.toList).length : Nat))) ∧ Below w.heap.size w w' := by
  unfold maxLen at hs
  have hg : ∃ n : Nat, n = (left s.data.toList).length := ⟨_, rfl⟩
  obtain ⟨n, hn⟩ := hg
  have hns : n ≤ s.size := by rw [hn]; exact Nat.le_trans (left_le _) (by simp)
  rw [← hn]
  have HN := Lib.hid hn
  clear hn
  have HT := Lib.hid (fun s w => trim_calls s w)
  have HC := Lib.hid (fun s (hs : s.size ≤ maxLen) w => cut_calls s hs w)
  have hb : blanks = ⟨#[32, 9, 10]⟩ := rfl
  rw [hb] at HT
  clear hb
  go_enter Tryd.func29, Tryd.ntmps29
  go_wp2_with (go_at_call 40; refine (HT.out _ _).mono ?_; rintro e w' ⟨rfl, hB⟩)
  go_loopw [0, 8, 9, 10, 11, 12, 13, 14, 15, 16, 17] (fun v _ _ _ _ _ _ _ _ _ _ wr => ∃ (t : ByteArray) (f : Nat), v = .string t ∧ t.size < f ∧ t.size ≤ s.size ∧ Hid (n = (skipF f t.data.toList).length) ∧ Below w.heap.size w wr) (fun v _ _ _ _ _ _ _ _ _ _ _ => strLen v)
  case atStart =>
    refine ⟨_, s.size + 1, rfl, ?_, ?_, Lib.hid ?_, hB⟩
    · have := dropWhile_le isBlank s.data.toList
      show _ < s.size + 1
      rw [Lib.size_eq]; simp at this ⊢; omega
    · have := dropWhile_le isBlank s.data.toList
      rw [Lib.size_eq]; simp at this ⊢; omega
    · rw [HN.out]; unfold left; simp
  case round =>
    obtain ⟨t, f, rfl, hf, hle, HP, HB⟩ := hrel
    have hm : t.size ≤ maxLen := by unfold maxLen; omega
    obtain ⟨f, rfl⟩ : ∃ m, f = m + 1 := ⟨f - 1, by omega⟩
    have hpre := Tryd.strings_HasPrefix t ⟨#[59]⟩
    have hpre2 : ∀ w, Calls Tryd.prog 41 #[.string t, .string ⟨#[59]⟩] w fun e w' => e = .returned (.bool (Lib.hasPrefix t.data.toList [59])) ∧ w' = w := fun w => hpre w
    clear hpre
    cases hx : Lib.hasPrefix t.data.toList [59] with
    | true =>
      rw [hx] at hpre2
      have H2 := Lib.hid hpre2
      have HX := Lib.hid hx
      have h1 := tailNl_lt _ hx
      have h2 := dropWhile_le isBlank (tailNl t.data.toList)
      clear hpre2 hx
      have hz := Lib.size_eq t
      have HS := Lib.hid hz
      have h3 : ((tailNl t.data.toList).dropWhile isBlank).length < t.size := by omega
      clear h1 h2 hz
      go_wp2_with (first
        | (go_at_call 41; refine (H2.out _).mono ?_; rintro e w' ⟨rfl, hw⟩; rw [hw]; clear hw)
        | (go_at_call 42; refine (HC.out _ hm _).mono ?_; rintro e w2 ⟨b, fnd, rfl, hB2⟩)
        | (go_at_call 40; refine (HT.out _ _).mono ?_; rintro e w3 ⟨rfl, hB3⟩))
      go_roundw
      case rel =>
        refine ⟨_, f, rfl, ?_, ?_, Lib.hid ?_, HB.trans (hB2.mono HB.size |>.trans (hB3.mono ?_))⟩
        · show ((tailNl t.data.toList).dropWhile isBlank).length < f
          omega
        · show ((tailNl t.data.toList).dropWhile isBlank).length ≤ s.size
          omega
        · rw [HP.out]
          show (skipF (f + 1) t.data.toList).length = (skipF f ((tailNl t.data.toList).dropWhile isBlank)).length
          simp only [skipF, HX.out, if_true]
        · exact Nat.le_trans HB.size hB2.size
      case measure =>
        show ((tailNl t.data.toList).dropWhile isBlank).length < t.size
        exact h3
    | false =>
      rw [hx] at hpre2
      have H2 := Lib.hid hpre2
      have hfin : n = t.size := by
        rw [HP.out]; unfold skipF; rw [if_neg (by rw [hx]; simp)]; exact (Lib.size_eq t).symm
      clear hpre2 hx
      subst hfin
      go_wp2_with (go_at_call 41; refine (H2.out _).mono ?_; rintro e w' ⟨rfl, hw⟩; rw [hw])
      go_ret
      exact ⟨rfl, HB⟩
end Go.Proofs.YthempkdgmobocaaDoorE
