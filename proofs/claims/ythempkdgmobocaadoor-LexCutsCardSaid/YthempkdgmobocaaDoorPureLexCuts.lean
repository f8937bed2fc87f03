/- LexCuts, over numbers and lists: the tokens of a text that is cut at a blank are the first ones of the whole. -/
import Derived.OpenShut
import Derived.Test.YthempkdgmobocaaDoorM7
import Derived.Test.YthempkdgmobocaaDoorQx7
namespace Go.Proofs.YthempkdgmobocaaDoor.Pure
open Go Go.RowKit Go.Proofs.YthempkdgmobocaaDoorEd Go.Proofs.YthempkdgmobocaaDoorE Go.Proofs.YthempkdgmobocaaDoorX Go.Proofs.YthempkdgmobocaaDoorM Go.Proofs.YthempkdgmobocaaDoor.L Go.Proofs.YthempkdgmobocaaDoor.Q
open Go.Proofs.YthempkdgmobocaaDoorW.PrintWords

/-- a whole text, and its beginning up to a blank. -/
theorem cut_or (x : ByteArray) (i : Nat) (hi : i ≤ x.size) (hc : i = x.size ∨ ∃ c r, x.data.toList.drop i = c :: r ∧ (c = 32 ∨ c = 10)) :
    ∃ (z : List UInt8) (q : Int), (i : Int) ≤ q ∧ lexA x.data.toList 0 = then_ (lexA (x.data.toList.take i) 0) (lexA z q) := by
  rcases hc with rfl | ⟨c, r, h1, h2⟩
  · refine ⟨[], x.size, Int.le_refl _, ?_⟩
    rw [List.take_of_length_le (by simp), lexA_nil]
    cases lexA x.data.toList 0 with
    | error e => rfl
    | ok l => simp [then_]
  · obtain ⟨z, q, hq, h⟩ := lexA_cut (x.data.toList.take i) c r h2 0
    refine ⟨z, q, ?_, ?_⟩
    · have : (x.data.toList.take i).length = i := by simp; omega
      omega
    · rw [← h, ← h1, List.take_append_drop]

theorem cuts_j1 (x : ByteArray) (hx : x.size ≤ 500) (i : Nat) (hi : i ≤ x.size) (hc : i = x.size ∨ ∃ c r, x.data.toList.drop i = c :: r ∧ (c = 32 ∨ c = 10)) (k : Nat) :
    eddywheellaw05_LexCuts.j1 (k + 2) x true (i : Int) = some true := by
  obtain ⟨z, q, hq, h⟩ := cut_or x i hi hc
  simp only [eddywheellaw05_LexCuts.j1]
  unfold lexC.f
  rw [if_pos (by omega), if_pos (by omega), Option.bind_some, Option.bind_some]
  have hd : (x.extract 0 ((i : Int).toNat)).data.toList = x.data.toList.take i := by rw [Int.toNat_natCast, extract_take]
  have hs : (x.extract 0 ((i : Int).toNat)).size = i := by rw [Lib.size_eq, hd]; simp; omega
  have r1 : lexR (x.extract 0 ((i : Int).toNat)) = fin [] (lexA (x.data.toList.take i) 0) := by unfold lexR; rw [if_neg (by omega), hd]
  have r2 : lexR x = fin [] (then_ (lexA (x.data.toList.take i) 0) (lexA z q)) := by unfold lexR; rw [if_neg (by omega), h]
  rw [r1, r2]
  have hlen2 := lexR_len x
  rw [r2] at hlen2
  cases ha : lexA (x.data.toList.take i) 0 with
  | error y =>
    obtain ⟨p, e⟩ := y
    have he := (lexA_err _ _ _ _ ha).1
    simp only [then_, fin, he, ↓reduceIte]
    simp only [eddywheellaw05_LexCuts.j2, ↓reduceIte]
    simp [he]
  | ok la =>
    have hla := lexA_len _ _ _ ha
    cases hb : lexA z q with
    | error y =>
      obtain ⟨p, e⟩ := y
      have he := (lexA_err _ _ _ _ hb).1
      have hne : (e != 0) = true := by simpa using he
      simp only [then_, fin, hne, ↓reduceIte]
      simp only [eddywheellaw05_LexCuts.j2, ↓reduceIte]
    | ok lz =>
      have hpz := lexA_pos _ _ _ hb
      rw [ha, hb] at hlen2
      simp only [then_] at hlen2 ⊢
      rw [fin_ok] at hlen2 ⊢
      rw [fin_ok]
      simp only [] at hlen2 ⊢
      rw [if_pos trivial]
      have hne : ((0 : Int) != 0) = false := by decide
      rw [hne]
      simp only [eddywheellaw05_LexCuts.j2]
      have hl : (la.map toS).length = la.length := by simp
      have hl2 : ((la ++ lz).map toS).length = la.length + lz.length := by simp
      rw [if_neg (show ¬ (false = true) by simp), hl, hl2, if_neg (by omega), if_pos trivial, if_pos (by omega), if_pos (by omega)]
      have ht : ((la ++ lz).map toS).take (((la.length : Int)).toNat) = la.map toS := by
        rw [Int.toNat_natCast, List.map_append, ← hl, List.take_left]
      rw [ht, sameC_refl _ (by rw [hl2] at hlen2; omega), Option.bind_some, if_pos rfl]
      by_cases hz : (la.length : Int) = ((la.length + lz.length : Nat) : Int)
      · rw [if_pos hz]
      · rw [if_neg hz, if_pos (by omega), rd_at _ _ (by rw [hl2]; omega)]
        have hz0 : 0 < lz.length := by omega
        have : ((la ++ lz).map toS)[la.length]'(by rw [hl2]; omega) = toS lz[0] := by
          rw [List.getElem_map, List.getElem_append_right (by omega)]
          simp
        rw [this]
        have := hpz _ (List.getElem_mem hz0)
        have : decide ((toS lz[0]).f1 ≥ (i : Int)) = true := decide_eq_true (by show lz[0].pos ≥ _; omega)
        rw [this]

theorem cuts_l0 (x : ByteArray) (hx : x.size ≤ 500) (d : Nat) : ∀ (k i : Nat), x.size - i = d → i ≤ x.size → d + 3 < k → eddywheellaw05_LexCuts.l0 k x true (i : Int) = some true := by
  induction d with
  | zero =>
    intro k i hd hi hk
    obtain ⟨k, rfl⟩ : ∃ m, k = m + 3 := ⟨k - 3, by omega⟩
    simp only [eddywheellaw05_LexCuts.l0]
    rw [if_neg (by omega)]
    exact cuts_j1 x hx i hi (.inl (by omega)) k
  | succ d ih =>
    intro k i hd hi hk
    obtain ⟨k, rfl⟩ : ∃ m, k = m + 3 := ⟨k - 3, by omega⟩
    obtain ⟨c, r, e1, e2, e3⟩ := drop_cons_of x i (by omega)
    rw [eddywheellaw05_LexCuts.l0]
    rw [if_pos (by omega), if_pos (by omega), e2]
    by_cases h1 : c = 32
    · have p1 : ((c.toNat : Int) = 32) := (toNat_eq c 32 (by omega)).2 h1
      rw [if_pos p1]
      exact cuts_j1 x hx i hi (.inr ⟨c, r, e1, .inl h1⟩) k
    have n1 : ¬ ((c.toNat : Int) = 32) := fun h => h1 ((toNat_eq c 32 (by omega)).1 h)
    rw [if_neg n1]
    by_cases h2 : c = 10
    · have p2 : ((c.toNat : Int) = 10) := (toNat_eq c 10 (by omega)).2 h2
      rw [if_pos p2]
      exact cuts_j1 x hx i hi (.inr ⟨c, r, e1, .inr h2⟩) k
    have n2 : ¬ ((c.toNat : Int) = 10) := fun h => h2 ((toNat_eq c 10 (by omega)).1 h)
    rw [if_neg n2, YthempkdgmobocaaDoorM.wrap_small _ (by omega) (by omega)]
    have e : (i : Int) + 1 = ((i + 1 : Nat) : Int) := by omega
    rw [e]
    exact ih (k + 2) (i + 1) (by omega) (by omega) (by omega)

theorem LexCuts : eddywheellaw05_LexCuts.Pure := by
  intro x a hx hw
  refine ⟨600, ?_⟩
  unfold eddywheellaw05_LexCuts.f
  rw [shown_true, Option.bind_some]
  by_cases h1 : (x.size : Int) > 500
  · rw [if_pos h1]
  have ha : 0 ≤ a ∧ a ≤ 65535 := bounds_u16 (by first | exact hw | exact hw.1 | exact hw.2 | simpa [Bool.and_eq_true] using hw)
  rw [if_neg h1, YthempkdgmobocaaDoorM.wrap_small ((x.size : Int) + 1) (by omega) (by omega), if_neg (by omega), YthempkdgmobocaaDoorM.wrap_small a (by omega) (by omega)]
  have e : Int.tmod a ((x.size : Int) + 1) = ((a.toNat % (x.size + 1) : Nat) : Int) := by
    rw [Int.tmod_eq_emod_of_nonneg ha.1, Int.natCast_emod, Int.toNat_of_nonneg ha.1]
    rfl
  rw [e]
  have hlt : a.toNat % (x.size + 1) < x.size + 1 := Nat.mod_lt _ (by omega)
  exact cuts_l0 x (by omega) _ 600 _ rfl (by omega) (by omega)
end Go.Proofs.YthempkdgmobocaaDoor.Pure
