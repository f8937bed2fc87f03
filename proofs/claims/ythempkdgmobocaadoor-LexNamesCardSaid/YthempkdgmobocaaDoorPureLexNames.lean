/- LexNames, over numbers and lists: letters of a name alone are one token. -/
import Derived.OpenShut
import Derived.Test.YthempkdgmobocaaDoorM7
import Derived.Test.YthempkdgmobocaaDoorQx6
namespace Go.Proofs.YthempkdgmobocaaDoor.Pure
open Go Go.RowKit Go.Proofs.YthempkdgmobocaaDoorEd Go.Proofs.YthempkdgmobocaaDoorE Go.Proofs.YthempkdgmobocaaDoorX Go.Proofs.YthempkdgmobocaaDoorM Go.Proofs.YthempkdgmobocaaDoor.L Go.Proofs.YthempkdgmobocaaDoor.Q
open Go.Proofs.YthempkdgmobocaaDoorW.PrintWords

/-- the letters. -/
def LET : ByteArray := ⟨#[97, 98, 99, 120, 121, 122, 65, 66, 90, 48, 49, 50, 51, 52, 53, 54, 55, 56, 57, 33, 36, 37, 38, 42, 43, 45, 47, 58, 60, 61, 62, 63, 94, 95, 126]⟩
theorem LET_size : LET.size = 35 := rfl
theorem LET_let : ∀ c ∈ LET.data.toList, isLet c = true := List.all_eq_true.1 (by decide +kernel)
theorem letter_at (j : Nat) (h : j < 35) : ∃ c : UInt8, bt LET (j : Int) = (c.toNat : Int) ∧ isLet c = true := by
  obtain ⟨c, r, h1, h2, _⟩ := drop_cons_of LET j (by rw [LET_size]; exact h)
  refine ⟨c, h2, LET_let c ?_⟩
  have : c ∈ LET.data.toList.drop j := by rw [h1]; simp
  exact List.mem_of_mem_drop this

/-- what the law's own loop holds of whether it is a number (n: how many bytes it was given). -/
def numf (n : Nat) : List UInt8 → Bool
  | [] => true
  | c :: r => (isDig c || (c == 45 && decide (n > 1))) && r.all isDig
theorem numf_snoc (n : Nat) (w : List UInt8) (c : UInt8) : numf n (w ++ [c]) = (numf n w && (isDig c || (decide (w.length = 0) && (c == 45 && decide (n > 1))))) := by
  cases w with
  | nil => simp [numf]
  | cons a r => simp [numf, Bool.and_assoc]
theorem numf_isNum (n : Nat) (w : List UInt8) (hw : w ≠ []) (h : w.length = min n 60) : numf n w = isNum w := by
  cases w with
  | nil => exact absurd rfl hw
  | cons c r =>
    by_cases hc : c = 45
    · subst hc
      show (isDig 45 || ((45 : UInt8) == 45 && decide (n > 1)) && r.all isDig) = (!r.isEmpty && r.all isDig)
      cases r with
      | nil =>
        have : ¬ n > 1 := by simp at h; omega
        simp [this, isDig]
      | cons b z =>
        have : n > 1 := by simp at h; omega
        have i45 : isDig 45 = false := by decide
        simp [this, i45]
    · have h2 : isNum (c :: r) = (!(c :: r).isEmpty && (c :: r).all isDig) := by
        unfold isNum
        split
        · rename_i e; cases e; exact absurd rfl hc
        · rfl
      rw [h2]
      have h3 : (c == 45) = false := by simpa using hc
      simp [numf, h3]

theorem num_long (w : List UInt8) (h : isNum w = true) (hv : w.length > 13 ∨ val w ≤ -1099511627776 ∨ val w ≥ 1099511627776) : w.length > 12 := by
  rcases hv with hv | hv
  · omega
  rcases Nat.lt_or_ge 12 w.length with hl | hl
  · exact hl
  exfalso
  have small : ∀ z : List UInt8, (∀ c ∈ z, isDig c = true) → z.length ≤ 12 → 0 ≤ val0 z ∧ val0 z < 1000000000000 := by
    intro z hz hzl
    have hb := val0_bd z hz
    have : (10 : Int) ^ z.length ≤ 10 ^ 12 := by
      have := Nat.pow_le_pow_right (n := 10) (by omega) hzl
      exact_mod_cast this
    omega
  rcases isNum_cases w h with ⟨r, rfl, hr, hd⟩ | ⟨hne, hd⟩
  · have e := (isNum_neg r hd hr).2
    rw [e] at hv
    have := small r hd (by simp at hl; omega)
    omega
  · have e := (isNum_digs w hd hne).2
    rw [e] at hv
    have := small w hd hl
    omega

theorem names_end (n : Nat) (L : List Int) (x : ByteArray) (hl : ∀ c ∈ x.data.toList, isLet c = true) (hx : x.data.toList.length = min n 60) (X : List Int) (i : Int) (k : Nat) :
    eddywheellaw05_LexNames.l0 (k + 1) L true LET x (numf n x.data.toList) X i i = some true := by
  have hs : x.size = x.data.toList.length := by simp
  rw [eddywheellaw05_LexNames.l0, if_neg (by omega)]
  unfold lexC.f
  rw [Option.bind_some]
  have r1 : lexR x = fin [] (lexA x.data.toList 0) := by unfold lexR; rw [if_neg (by omega)]
  rw [r1]
  by_cases hw : x.data.toList = []
  · have e : x.toList = ([] : List UInt8) := by rw [Lib.toList_data]; exact hw
    rw [if_pos e, hw, lexA_nil, fin_ok]
    rfl
  have e : ¬ x.toList = ([] : List UInt8) := by rw [Lib.toList_data]; exact hw
  rw [if_neg e, numf_isNum n _ hw hx]
  have h1 := lexA_word x.data.toList [] 0 hw hl (by intro c r h; cases h)
  rw [List.append_nil, lexA_nil] at h1
  rw [h1]
  unfold one
  by_cases hn : isNum x.data.toList = true
  · rw [hn]
    simp only [↓reduceIte]
    by_cases hv : x.data.toList.length > 13 ∨ val x.data.toList ≤ -1099511627776 ∨ val x.data.toList ≥ 1099511627776
    · rw [if_pos hv]
      have := num_long _ hn hv
      simp [fin]
      omega
    · rw [if_neg hv]
      simp [fin, cons, toS, rd_T30]
  · simp only [hn, Bool.false_eq_true, ↓reduceIte]
    by_cases hg : x.data.toList.length > 32
    · rw [if_pos hg, if_pos (by omega)]
      simp [fin]
    · rw [if_neg hg, if_neg (by omega)]
      simp [fin, cons, toS, rd_T30, Lib.toList_data]

theorem names_l0 (n : Nat) (L : List Int) (hL : L.length = n) (hw : ∀ x ∈ L, (Lit.int .u8 x).wf = true) (m : Nat) (hm : m = min n 60) (d : Nat) : ∀ (k i : Nat) (x : ByteArray), m - i = d → i ≤ m → d < k → (∀ c ∈ x.data.toList, isLet c = true) → x.data.toList.length = i →
    eddywheellaw05_LexNames.l0 k L true LET x (numf n x.data.toList) (L.take m) (m : Int) (i : Int) = some true := by
  induction d with
  | zero =>
    intro k i x hd hi hk hl hx
    obtain ⟨k, rfl⟩ : ∃ z, k = z + 1 := ⟨k - 1, by omega⟩
    have : i = m := by omega
    subst this
    exact names_end n L x hl (by omega) _ _ k
  | succ d ih =>
    intro k i x hd hi hk hl hx
    obtain ⟨k, rfl⟩ : ∃ z, k = z + 1 := ⟨k - 1, by omega⟩
    have a1 : m - (i + 1) = d := by omega
    have a2 : i + 1 ≤ m := by omega
    have hlen : (L.take m).length = m := by simp; omega
    have hs : x.size = x.data.toList.length := by simp
    have a3 : x.size ≤ 60 := by rw [hs, hx]; omega
    have a4 : x.size + 1 ≤ 9223372036854775807 := Nat.le_trans (Nat.succ_le_succ a3) (by decide)
    have hr := range_u8 (zs := L.take m) (fun y hy => hw y (List.mem_of_mem_take hy)) i
    have hrd : rd (L.take m) (i : Int) = (L.take m)[i]?.getD 0 := by unfold rd; rw [Int.toNat_natCast]; rfl
    have hwr : wrap64 (rd (L.take m) (i : Int)) = rd (L.take m) (i : Int) := YthempkdgmobocaaDoorM.wrap_small _ (by omega) (by omega)
    have hj : Int.tmod (rd (L.take m) (i : Int)) 35 = rd (L.take m) (i : Int) % 35 := Int.tmod_eq_emod_of_nonneg (by omega)
    obtain ⟨j, hj2⟩ : ∃ j : Nat, rd (L.take m) (i : Int) % 35 = (j : Int) := ⟨(rd (L.take m) (i : Int) % 35).toNat, by omega⟩
    have hj3 : Int.tmod (wrap64 (rd (L.take m) (i : Int))) (LET.size : Int) = (j : Int) := by
      rw [hwr, LET_size]
      exact hj.trans hj2
    obtain ⟨c, hc, hcl⟩ := letter_at j (by omega)
    rw [eddywheellaw05_LexNames.l0, hj3, hc, LET_size]
    rw [if_pos (by omega), if_pos (by omega), if_pos (by omega), if_neg (by omega), if_pos (by omega), if_pos (by omega), Option.bind_some]
    have hso : strOfNums [(c.toNat : Int)] = ⟨#[c]⟩ := by simp [strOfNums]
    have ha : (x ++ (⟨#[c]⟩ : ByteArray)).data.toList = x.data.toList ++ [c] := by rw [append_list]
    have hi1 : wrap64 ((i : Int) + 1) = ((i + 1 : Nat) : Int) := by rw [YthempkdgmobocaaDoorM.wrap_small _ (by omega) (by omega)]; omega
    rw [hso, hi1, hL]
    have hsz : (⟨#[c]⟩ : ByteArray).size = 1 := rfl
    rw [hsz, if_pos a4]
    have key : ∀ b, b = numf n (x.data.toList ++ [c]) → eddywheellaw05_LexNames.l0 k L true LET (x ++ ⟨#[c]⟩) b (L.take m) (m : Int) ((i + 1 : Nat) : Int) = some true := by
      rintro _ rfl
      rw [← ha]
      refine ih k (i + 1) _ a1 a2 (Nat.lt_of_succ_lt_succ hk) ?_ ?_
      · rw [ha]
        intro y hy
        rcases List.mem_append.1 hy with h | h
        · exact hl y h
        · rw [List.mem_singleton.1 h]; exact hcl
      · rw [ha]; simp; omega
    have hdg := isDig_nat c
    have h45 : (c == 45) = decide ((c.toNat : Int) = 45) := by
      by_cases h : c = 45
      · subst h; rfl
      · have : ¬ ((c.toNat : Int) = 45) := fun e => h ((toNat_eq c 45 (by omega)).1 e)
        simp [h, this]
    have hfirst : (decide (x.data.toList.length = 0)) = decide ((i : Int) = 0) := by
      rw [hx]; simp
    cases hf : numf n x.data.toList with
    | false =>
      rw [if_neg (by simp)]
      exact key false (by rw [numf_snoc, hf]; rfl)
    | true =>
      rw [if_pos rfl]
      by_cases h48 : (c.toNat : Int) ≥ 48
      · rw [if_pos h48]
        by_cases h57 : (c.toNat : Int) ≤ 57
        · rw [if_pos h57]
          have : isDig c = true := by rw [hdg]; simp; omega
          exact key true (by rw [numf_snoc, hf, this]; rfl)
        · rw [if_neg h57]
          have h1 : isDig c = false := by rw [hdg]; simp; omega
          by_cases h0 : (i : Int) = 0
          · rw [if_pos h0]
            by_cases h4 : (c.toNat : Int) = 45
            · omega
            · rw [if_neg h4]
              exact key false (by rw [numf_snoc, hf, h1, h45, decide_eq_false h4]; simp)
          · rw [if_neg h0]
            exact key false (by rw [numf_snoc, hf, h1, hfirst, decide_eq_false h0]; rfl)
      · rw [if_neg h48]
        have h1 : isDig c = false := by rw [hdg]; simp; omega
        by_cases h0 : (i : Int) = 0
        · rw [if_pos h0]
          by_cases h4 : (c.toNat : Int) = 45
          · rw [if_pos h4]
            have hd1 : decide ((n : Int) > 1) = decide (n > 1) := decide_eq_decide.2 (by omega)
            exact key _ (by rw [numf_snoc, hf, h1, h45, hfirst, decide_eq_true h0, decide_eq_true h4, hd1]; rfl)
          · rw [if_neg h4]
            exact key false (by rw [numf_snoc, hf, h1, h45, decide_eq_false h4]; simp)
        · rw [if_neg h0]
          exact key false (by rw [numf_snoc, hf, h1, hfirst, decide_eq_false h0]; rfl)

theorem LexNames : eddywheellaw05_LexNames.Pure := by
  intro L hm hsz hw
  refine ⟨200, ?_⟩
  unfold eddywheellaw05_LexNames.f
  rw [shown_true, Option.bind_some]
  have e : mn (L.length : Int) 60 = ((min L.length 60 : Nat) : Int) := by
    unfold mn
    split <;> omega
  rw [e, if_pos (by omega), if_pos (by omega)]
  have hlen : (L.take (((min L.length 60 : Nat) : Int).toNat)).length = min L.length 60 := by simp
  rw [hlen, Int.toNat_natCast]
  exact names_l0 L.length L rfl hw (min L.length 60) rfl _ 200 0 ⟨#[]⟩ rfl (by omega) (by omega) (by simp) rfl
end Go.Proofs.YthempkdgmobocaaDoor.Pure
