/- LexPasses, over numbers and lists: blanks and remarks ahead of a text, and behind it. -/
import Derived.OpenShut
import Derived.Test.YthempkdgmobocaaDoorM7
import Derived.Test.YthempkdgmobocaaDoorQx4
namespace Go.Proofs.YthempkdgmobocaaDoor.Pure
open Go Go.RowKit Go.Proofs.YthempkdgmobocaaDoorEd Go.Proofs.YthempkdgmobocaaDoorE Go.Proofs.YthempkdgmobocaaDoorX Go.Proofs.YthempkdgmobocaaDoorM Go.Proofs.YthempkdgmobocaaDoor.L Go.Proofs.YthempkdgmobocaaDoor.Q
open Go.Proofs.YthempkdgmobocaaDoorW.PrintWords

/-- a text that is passed over. -/
def Passed (a : List UInt8) : Prop := ∀ s p, lexA (a ++ s) p = lexA s (p + a.length)
theorem passed_nil : Passed [] := fun s p => by simp
theorem passed_app {a b : List UInt8} (ha : Passed a) (hb : Passed b) : Passed (a ++ b) := fun s p => by
  rw [List.append_assoc, ha, hb, List.length_append]
  congr 1
  omega
theorem passed_blank (c : UInt8) (h : isBlank c = true) : Passed [c] := fun s p => lexA_blank c s p h
theorem passed_rem : Passed [59, 32, 40, 32, 120, 10] := fun s p => by
  have := lexA_remark [32, 40, 32, 120] s p (by decide)
  refine Eq.trans this ?_
  congr 1
  simp only [List.length_cons, List.length_nil]
  omega

theorem piece (a : Int) (h : 0 ≤ a ∧ a ≤ 255) : ∃ z : ByteArray, rdOf ByteArray.empty ([(⟨#[32]⟩ : ByteArray), (⟨#[9]⟩ : ByteArray), (⟨#[10]⟩ : ByteArray), (⟨#[59, 32, 40, 32, 120, 10]⟩ : ByteArray)] : List ByteArray) (Int.tmod a 4) = z ∧ Passed z.data.toList ∧ z.size ≤ 6 ∧ 0 ≤ Int.tmod a 4 ∧ Int.tmod a 4 < 4 := by
  have e : Int.tmod a 4 = a % 4 := Int.tmod_eq_emod_of_nonneg h.1
  have : Int.tmod a 4 = 0 ∨ Int.tmod a 4 = 1 ∨ Int.tmod a 4 = 2 ∨ Int.tmod a 4 = 3 := by omega
  rcases this with h | h | h | h <;> rw [h]
  · exact ⟨_, rfl, passed_blank 32 (by decide), by decide, by decide, by decide⟩
  · exact ⟨_, rfl, passed_blank 9 (by decide), by decide, by decide, by decide⟩
  · exact ⟨_, rfl, passed_blank 10 (by decide), by decide, by decide, by decide⟩
  · exact ⟨_, rfl, passed_rem, by decide, by decide, by decide⟩

theorem passes_l1 (a : ByteArray) (ha : a.size ≤ 48) (A : List S30) (hA : A.length ≤ 4000) (hb : ∀ t ∈ A, 0 ≤ t.f1 ∧ t.f1 ≤ 1000) (d : Nat) : ∀ (k i : Nat), A.length - i = d → i ≤ A.length → d < k →
    eddywheellaw05_LexPasses.l1 k true a A (A.map (sh a.size)) A (A.length : Int) (i : Int) = some true := by
  induction d with
  | zero =>
    intro k i hd hi hk
    obtain ⟨k, rfl⟩ : ∃ m, k = m + 1 := ⟨k - 1, by omega⟩
    rw [eddywheellaw05_LexPasses.l1, if_neg (by omega)]
  | succ d ih =>
    intro k i hd hi hk
    obtain ⟨k, rfl⟩ : ∃ m, k = m + 1 := ⟨k - 1, by omega⟩
    have hlt : i < A.length := by omega
    have hl : (A.map (sh a.size)).length = A.length := by simp
    rw [eddywheellaw05_LexPasses.l1, if_pos (by omega), if_pos (by omega), if_pos (by omega), if_pos (by omega), rd_at A i hlt, rd_at _ i (by omega)]
    have e : (A.map (sh a.size))[i]'(by omega) = sh a.size A[i] := by simp
    rw [e]
    have hw : wrap64 ((sh a.size A[i]).f1 - (a.size : Int)) = A[i].f1 := by
      have := hb _ (List.getElem_mem hlt)
      show wrap64 (wrap64 (A[i].f1 + (a.size : Int)) - (a.size : Int)) = _
      rw [YthempkdgmobocaaDoorM.wrap_small (A[i].f1 + (a.size : Int)) (by omega) (by omega), YthempkdgmobocaaDoorM.wrap_small _ (by omega) (by omega)]
      omega
    rw [hw]
    rw [if_neg (by simp [sh]), if_pos (by omega), if_neg (by simp)]
    rw [YthempkdgmobocaaDoorM.wrap_small _ (by omega) (by omega)]
    have e : (i : Int) + 1 = ((i + 1 : Nat) : Int) := by omega
    rw [e]
    exact ih k (i + 1) (by omega) (by omega) (by omega)

theorem passes_l0 (x : ByteArray) (hx : x.size ≤ 1000) (b : Int) (hb : 0 ≤ b ∧ b ≤ 255) (m : Nat) (hm : m ≤ 8) (d : Nat) : ∀ (k i : Nat) (a : ByteArray), m - i = d → i ≤ m → d + 1100 < k → Passed a.data.toList → a.size ≤ 6 * i →
    eddywheellaw05_LexPasses.l0 k x b true a (m : Int) (i : Int) = some true := by
  induction d with
  | zero =>
    intro k i a hd hi hk hp hs
    obtain ⟨k, rfl⟩ : ∃ m, k = m + 2 := ⟨k - 2, by omega⟩
    have lx : x.data.toList.length = x.size := by simp
    have la' : a.data.toList.length = a.size := by simp
    have hsz : (x ++ (⟨#[10]⟩ : ByteArray)).size = x.size + 1 := by rw [ByteArray.size_append]; rfl
    have hsz2 : ((x ++ (⟨#[10]⟩ : ByteArray)) ++ a).size = x.size + 1 + a.size := by rw [ByteArray.size_append, hsz]
    have hsz3 : (a ++ x).size = a.size + x.size := by rw [ByteArray.size_append]
    have hd1 : ((x ++ (⟨#[10]⟩ : ByteArray)) ++ a).data.toList = x.data.toList ++ 10 :: a.data.toList := by
      rw [append_list, append_list]; simp
    have p0 : ∀ p, lexA a.data.toList p = .ok [] := fun p => by
      have := hp [] p
      rw [List.append_nil, lexA_nil] at this
      exact this
    have r1 : lexR x = fin [] (lexA x.data.toList 0) := by unfold lexR; rw [if_neg (by omega)]
    have r2 : lexR (a ++ x) = fin [] (YthempkdgmobocaaDoorEd.move a.size (lexA x.data.toList 0)) := by
      unfold lexR
      rw [if_neg (by omega), append_list, hp, la', ← lexA_move]
    have r3 : lexR ((x ++ (⟨#[10]⟩ : ByteArray)) ++ a) = fin [] (lexA x.data.toList 0) := by
      unfold lexR
      rw [if_neg (by omega), hd1, lexA_join, p0]
      cases lexA x.data.toList 0 with
      | error e => rfl
      | ok l => simp [then_]
    rw [eddywheellaw05_LexPasses.l0, if_neg (by omega)]
    unfold lexC.f
    rw [Option.bind_some, if_pos (by omega), Option.bind_some, if_pos (by omega), if_pos (by omega), Option.bind_some]
    rw [r1, r2, r3]
    cases hl : lexA x.data.toList 0 with
    | error z =>
      obtain ⟨q, e⟩ := z
      have he := lexA_err _ _ _ _ hl
      simp only [YthempkdgmobocaaDoorEd.move, fin, ↓reduceIte]
      rw [eddywheellaw05_LexPasses.j1]
      simp only [bne_self_eq_false, Bool.false_eq_true, he.1, ↓reduceIte]
      rw [YthempkdgmobocaaDoorM.wrap_small _ (by omega) (by omega)]
      simp
    | ok l =>
      have hlen := lexA_len _ _ _ hl
      have hbd := lexA_bounds _ _ _ hl
      simp only [YthempkdgmobocaaDoorEd.move, fin_ok, ↓reduceIte]
      rw [map_toS_mv a.size l (fun t ht => by have := hbd t ht; omega)]
      simp only [List.length_map, ↓reduceIte]
      rw [eddywheellaw05_LexPasses.j1]
      simp only [bne_self_eq_false, Bool.false_eq_true, ↓reduceIte]
      have := passes_l1 a (by omega) (l.map toS) (by simp; omega) (by
        intro t ht
        obtain ⟨u, hu, rfl⟩ := List.mem_map.1 ht
        have := hbd u hu
        show 0 ≤ u.pos ∧ u.pos ≤ 1000
        omega) _ k 0 rfl (by omega) (by simp; omega)
      exact this
  | succ d ih =>
    intro k i a hd hi hk hp hs
    obtain ⟨k, rfl⟩ : ∃ m, k = m + 1 := ⟨k - 1, by omega⟩
    obtain ⟨z, hz, hzp, hzs, h0, h4⟩ := piece b hb
    rw [eddywheellaw05_LexPasses.l0, if_pos (by omega), Option.bind_some, if_pos h0, if_pos (by simp only [List.length_cons, List.length_nil]; omega), hz, if_pos (by omega)]
    have e : ((i : Int) + 1) % 256 = ((i + 1 : Nat) : Int) := by omega
    rw [e]
    refine ih k (i + 1) _ (by omega) (by omega) (by omega) ?_ ?_
    · rw [append_list]; exact passed_app hp hzp
    · rw [ByteArray.size_append]; omega

theorem LexPasses : eddywheellaw05_LexPasses.Pure := by
  intro x n b hx hn hb
  refine ⟨1200, ?_⟩
  unfold eddywheellaw05_LexPasses.f
  rw [shown_true, Option.bind_some]
  by_cases h1 : (x.size : Int) > 1000
  · rw [if_pos h1]
  rw [if_neg h1]
  have hn' := bounds_u8 hn
  have hb' := bounds_u8 hb
  have e : Int.tmod n 9 = ((n.toNat % 9 : Nat) : Int) := by
    rw [Int.tmod_eq_emod_of_nonneg hn'.1]
    omega
  rw [e]
  exact passes_l0 x (by omega) b hb' (n.toNat % 9) (by omega) _ 1200 0 ⟨#[]⟩ rfl (by omega) (by omega) passed_nil (by decide)
end Go.Proofs.YthempkdgmobocaaDoor.Pure
