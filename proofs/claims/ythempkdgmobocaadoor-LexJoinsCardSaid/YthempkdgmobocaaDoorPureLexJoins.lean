/- LexJoins, over numbers and lists: texts one behind the other have the tokens of both. -/
import Derived.Test.YthempkdgmobocaaDoorM7
import Derived.Test.YthempkdgmobocaaDoorQx5
namespace Go.Proofs.YthempkdgmobocaaDoor.Pure
open Go Go.RowKit Go.Proofs.YthempkdgmobocaaDoorEd Go.Proofs.YthempkdgmobocaaDoorE Go.Proofs.YthempkdgmobocaaDoorX Go.Proofs.YthempkdgmobocaaDoorM Go.Proofs.YthempkdgmobocaaDoor.L Go.Proofs.YthempkdgmobocaaDoor.Q
open Go.Proofs.YthempkdgmobocaaDoorW.PrintWords

theorem joins_l0 (x : ByteArray) (hx : x.size ≤ 500) (B : List S30) (hB : B.length ≤ 500) (d : Nat) : ∀ (k i : Nat) (acc : List S30), B.length - i = d → i ≤ B.length → d < k → acc.length ≤ 500 + i →
    eddywheellaw05_LexJoins.l0 k x true (acc ++ (B.drop i).map (sh (x.size + 1))) 0 0 acc B (B.length : Int) (i : Int) = some true := by
  induction d with
  | zero =>
    intro k i acc hd hi hk ha
    obtain ⟨k, rfl⟩ : ∃ m, k = m + 1 := ⟨k - 1, by omega⟩
    simp only [eddywheellaw05_LexJoins.l0]
    rw [if_neg (by omega), if_pos trivial, if_pos trivial, if_pos trivial, List.drop_of_length_le (by omega)]
    simp only [List.map_nil, List.append_nil]
    rw [sameC_refl _ (by omega), Option.bind_some]
  | succ d ih =>
    intro k i acc hd hi hk ha
    obtain ⟨k, rfl⟩ : ∃ m, k = m + 1 := ⟨k - 1, by omega⟩
    have hlt : i < B.length := by omega
    simp only [eddywheellaw05_LexJoins.l0]
    rw [if_pos (by omega), if_pos (by omega), if_pos (by omega), if_pos (by omega), rd_at B i hlt]
    rw [YthempkdgmobocaaDoorM.wrap_small ((i : Int) + 1) (by omega) (by omega), YthempkdgmobocaaDoorM.wrap_small ((x.size : Int) + 1) (by omega) (by omega)]
    have e : (i : Int) + 1 = ((i + 1 : Nat) : Int) := by omega
    have hs : ([(⟨B[i].f0, wrap64 (B[i].f1 + ((x.size : Int) + 1)), B[i].f2, B[i].f3⟩ : S30)]) = [sh (x.size + 1) B[i]] := rfl
    rw [e, hs]
    have hc : acc ++ (B.drop i).map (sh (x.size + 1)) = (acc ++ [sh (x.size + 1) B[i]]) ++ (B.drop (i + 1)).map (sh (x.size + 1)) := by
      rw [List.drop_eq_getElem_cons hlt, List.map_cons, List.append_assoc, List.singleton_append]
    rw [hc]
    exact ih k (i + 1) _ (by omega) (by omega) (by omega) (by simp; omega)

theorem LexJoins : eddywheellaw05_LexJoins.Pure := by
  intro x y hx hy
  refine ⟨600, ?_⟩
  unfold eddywheellaw05_LexJoins.f
  rw [shown_true, Option.bind_some]
  have big : ∀ k, eddywheellaw05_LexJoins.j0 (k + 1) x y true true = some true := fun k => by
    simp only [eddywheellaw05_LexJoins.j0, if_true]
  by_cases h1 : (x.size : Int) > 500
  · rw [if_pos h1]; exact big 599
  rw [if_neg h1]
  by_cases h2 : (y.size : Int) > 500
  · rw [decide_eq_true h2]; exact big 599
  rw [decide_eq_false h2]
  simp only [eddywheellaw05_LexJoins.j0]
  rw [if_neg (show ¬ (false = true) by simp)]
  have hsz : (x ++ (⟨#[10]⟩ : ByteArray)).size = x.size + 1 := by rw [ByteArray.size_append]; rfl
  unfold lexC.f
  rw [Option.bind_some, Option.bind_some, if_pos (by omega), if_pos (by rw [hsz]; omega), Option.bind_some]
  have hd : ((x ++ (⟨#[10]⟩ : ByteArray)) ++ y).data.toList = x.data.toList ++ 10 :: y.data.toList := by
    rw [append_list, append_list]; simp
  have hsz2 : ((x ++ (⟨#[10]⟩ : ByteArray)) ++ y).size = x.size + 1 + y.size := by rw [ByteArray.size_append, hsz]
  have lx : x.data.toList.length = x.size := by simp
  have ly : y.data.toList.length = y.size := by simp
  have hj := lexA_join x.data.toList y.data.toList 0
  have hm := lexA_move y.data.toList 0 (x.size + 1)
  have r1 : lexR x = fin [] (lexA x.data.toList 0) := by unfold lexR; rw [if_neg (by omega)]
  have r2 : lexR y = fin [] (lexA y.data.toList 0) := by unfold lexR; rw [if_neg (by omega)]
  have r3 : lexR ((x ++ (⟨#[10]⟩ : ByteArray)) ++ y) = fin [] (then_ (lexA x.data.toList 0) (YthempkdgmobocaaDoorEd.move (x.size + 1) (lexA y.data.toList 0))) := by
    unfold lexR
    rw [if_neg (by omega), hd, hj, ← hm, lx]
    congr 3
  rw [r1, r2, r3]
  cases ha : lexA x.data.toList 0 with
  | error z =>
    obtain ⟨q, e⟩ := z
    have he := (lexA_err _ _ _ _ ha).1
    simp only [then_, fin, he, ↓reduceIte]
    simp
  | ok la =>
    have hla := lexA_len _ _ _ ha
    cases hb : lexA y.data.toList 0 with
    | error z =>
      obtain ⟨q, e⟩ := z
      have he := lexA_err _ _ _ _ hb
      simp only [then_, YthempkdgmobocaaDoorEd.move, fin, he.1, ↓reduceIte]
      rw [YthempkdgmobocaaDoorM.wrap_small (q + (x.size : Int)) (by omega) (by omega), YthempkdgmobocaaDoorM.wrap_small _ (by omega) (by omega)]
      simp; omega
    | ok lb =>
      have hlb := lexA_len _ _ _ hb
      have hbd := lexA_bounds _ _ _ hb
      simp only [then_, YthempkdgmobocaaDoorEd.move]
      simp only [fin_ok, ↓reduceIte]
      simp only [List.nil_append, List.length_nil, List.length_map]
      rw [if_pos (by omega)]
      rw [List.map_append, map_toS_mv (x.size + 1) lb (fun t ht => by have := hbd t ht; omega)]
      have := joins_l0 x (by omega) (lb.map toS) (by simp; omega) _ 599 0 (la.map toS) rfl (by omega) (by simp; omega) (by simp; omega)
      simp only [List.drop_zero, List.length_map] at this
      exact this
end Go.Proofs.YthempkdgmobocaaDoor.Pure
