/- The walk of the reference's letter: is a byte a letter of a name. -/
import Derived.Test.YthempkdgmobocaaDoorE5
namespace Go.Proofs.YthempkdgmobocaaDoorE
open Go Go.RowKit Go.Proofs.YthempkdgmobocaaDoorEd

theorem anyFrom (s : ByteArray) (c : Int) (i : Nat) (h : i < s.size) : (s.data.toList.drop i).any (fun x => decide ((x.toNat : Int) = c)) = (decide (((s[i]'h).toNat : Int) = c) || (s.data.toList.drop (i + 1)).any (fun x => decide ((x.toNat : Int) = c))) := by
  have h' : i < s.data.toList.length := by simpa using h
  rw [List.drop_eq_getElem_cons h']
  have : s.data.toList[i] = s[i] := by simp; rfl
  rw [this]
  rfl
theorem let_rest : ∀ n : Fin 256, ¬ (97 ≤ n.val ∧ n.val ≤ 122) → ¬ (65 ≤ n.val ∧ n.val ≤ 90) → ¬ (48 ≤ n.val ∧ n.val ≤ 57) → isLet (UInt8.ofNat n.val) = signs.data.toList.any (fun x => decide ((x.toNat : Int) = n.val)) := by decide +kernel
theorem let_yes : ∀ n : Fin 256, ((97 ≤ n.val ∧ n.val ≤ 122) ∨ (65 ≤ n.val ∧ n.val ≤ 90) ∨ (48 ≤ n.val ∧ n.val ≤ 57)) → isLet (UInt8.ofNat n.val) = true := by decide +kernel

def LetB (c : Int) : Bool := isLet (UInt8.ofNat c.toNat)
theorem letB_yes (c : Int) (h0 : 0 ≤ c) (h1 : c ≤ 255) (h : (97 ≤ c ∧ c ≤ 122) ∨ (65 ≤ c ∧ c ≤ 90) ∨ (48 ≤ c ∧ c ≤ 57)) : LetB c = true :=
  let_yes ⟨c.toNat, by omega⟩ (by simp only; omega)

set_option maxHeartbeats 4000000 in
set_option maxRecDepth 100000 in
theorem refLetter_calls (c : Int) (h0 : 0 ≤ c) (h1 : c ≤ 255) (w : World) :
    Calls Tryd.prog 33 #[.int .u8 c] w fun e w' => e = .returned (.bool (LetB c)) ∧ w = w' := by
  by_cases ha : 97 ≤ c ∧ c ≤ 122
  · have hr := Lib.hid (letB_yes c h0 h1 (by omega))
    obtain ⟨a1, a2⟩ := ha
    go_enter Tryd.func33, Tryd.ntmps33
    go_wp2
    all_goals go_ret
    all_goals exact ⟨ret_bool hr.out.symm, rfl⟩
  by_cases hb : 65 ≤ c ∧ c ≤ 90
  · have hr := Lib.hid (letB_yes c h0 h1 (by omega))
    obtain ⟨a1, a2⟩ := hb
    go_enter Tryd.func33, Tryd.ntmps33
    go_wp2
    all_goals go_ret
    all_goals exact ⟨ret_bool hr.out.symm, rfl⟩
  by_cases hc : 48 ≤ c ∧ c ≤ 57
  · have hr := Lib.hid (letB_yes c h0 h1 (by omega))
    obtain ⟨a1, a2⟩ := hc
    go_enter Tryd.func33, Tryd.ntmps33
    go_wp2
    all_goals go_ret
    all_goals exact ⟨ret_bool hr.out.symm, rfl⟩
  have hr0 : LetB c = signs.data.toList.any (fun x => decide ((x.toNat : Int) = c)) := by
    have := let_rest ⟨c.toNat, by omega⟩ (by simp only; omega) (by simp only; omega) (by simp only; omega)
    unfold LetB
    rw [this]
    simp only
    rw [show ((c.toNat : Nat) : Int) = c by omega]
  have hr := Lib.hid hr0
  clear hr0
  have hsz : signs.size ≤ 100 := by decide
  have hsg : (⟨#[33, 36, 37, 38, 42, 43, 45, 47, 58, 60, 61, 62, 63, 94, 95, 126]⟩ : ByteArray) = signs := rfl
  have HS := Lib.hid hsg
  clear hsg
  go_enter Tryd.func33, Tryd.ntmps33
  go_wp2
  all_goals rw [HS.out]
  all_goals generalize signs = sg at hr hsz
  all_goals clear HS
  all_goals (
   go_loop [2, 4] (fun _ i => ∃ k : Nat, k ≤ sg.size ∧ i = .int .i64 k ∧ Hid (LetB c = (sg.data.toList.drop k).any (fun x => decide ((x.toNat : Int) = c)))) (fun _ i => sg.size - (intOf i).toNat)
   case atStart => exact ⟨0, Nat.zero_le _, rfl, Lib.hid (by rw [hr.out]; rfl)⟩
   case round =>
    obtain ⟨k, hk, rfl, HP⟩ := hrel
    by_cases hlt : k < sg.size
    · have HA := Lib.hid (anyFrom sg c k hlt)
      by_cases he : ((sg[k]'hlt).toNat : Int) = c
      · have hf : LetB c = true := by rw [HP.out, HA.out]; simp [he]
        have HF := Lib.hid hf
        have hb : (((sg[k]'hlt).toNat : Int) == c) = true := beq_iff_eq.2 he
        clear hf he
        go_wp2
        go_ret
        exact ⟨ret_bool HF.out.symm, rfl⟩
      · have HN := Lib.hid (show LetB c = (sg.data.toList.drop (k + 1)).any (fun x => decide ((x.toNat : Int) = c)) by rw [HP.out, HA.out]; simp [he])
        have hb : (((sg[k]'hlt).toNat : Int) == c) = false := beq_eq_false_iff_ne.2 he
        clear he
        go_wp2
        go_round
        case rel => exact ⟨k + 1, by omega, by go_num, HN⟩
        case measure => simp [intOf]; omega
    · have hf : LetB c = false := by rw [HP.out, List.drop_of_length_le (by simp; omega)]; rfl
      have HF := Lib.hid hf
      clear hf
      go_wp2
      go_ret
      exact ⟨ret_bool HF.out.symm, rfl⟩)
end Go.Proofs.YthempkdgmobocaaDoorE
