/- Texts of this claim, one behind the other: PureReadPlays, Me, PureReadJoins. -/
import Derived.Test.YthempkdgmobocaaDoorBg
import Derived.Test.YthempkdgmobocaaDoorBt
import Derived.Test.YthempkdgmobocaaDoorBv
section
/- ReadPlays, over numbers and lists: the two readers, which both compute the plain law, agree. -/
namespace Go.Proofs.YthempkdgmobocaaDoor.Pure
open Go Go.RowKit Go.Proofs.YthempkdgmobocaaDoorEd Go.Proofs.YthempkdgmobocaaDoorE Go.Proofs.YthempkdgmobocaaDoorX Go.Proofs.YthempkdgmobocaaDoorRd Go.Proofs.YthempkdgmobocaaDoor.L Go.Proofs.YthempkdgmobocaaDoor.N Go.Proofs.YthempkdgmobocaaDoor.T
open Go.Proofs.YthempkdgmobocaaDoorW.PrintWords

theorem shown6 : eddywheellaw06_shown.f = some true := by
  have h : readC.f (⟨#[40, 97, 32, 39, 98, 41]⟩ : ByteArray) = some _ := congrArg some read_1
  unfold eddywheellaw06_shown.f
  rw [h, Option.bind_some, if_pos rfl, if_pos rfl, ints6C_refl _ (by simp), Option.bind_some, if_pos rfl, same6C_refl _ (by simp) (by simp), Option.bind_some]
theorem ReadPlays : eddywheellaw06_ReadPlays.Pure := by
  intro x hx
  unfold eddywheellaw06_ReadPlays.f
  rw [shown6, Option.bind_some]
  by_cases h : (x.size : Int) > 4500
  · rw [if_pos h]
  · rw [if_neg h]
    have hs := readR_sizes x
    unfold readC.f refReadC.f
    rw [Option.bind_some, Option.bind_some, if_pos rfl, same6C_refl _ hs.1 hs.2.2, Option.bind_some, if_pos rfl, ints6C_refl _ hs.2.1, Option.bind_some, if_pos rfl, if_pos rfl, beq_self_eq_true]
end Go.Proofs.YthempkdgmobocaaDoor.Pure
end
section
/- The plain law of the reader: texts one behind the other. -/
namespace Go.Proofs.YthempkdgmobocaaDoorRd
open Go Go.Proofs.YthempkdgmobocaaDoorEd Go.Proofs.YthempkdgmobocaaDoorE Go.Proofs.YthempkdgmobocaaDoorX Go.Proofs.YthempkdgmobocaaDoor.L Go.Proofs.YthempkdgmobocaaDoor.N Go.Proofs.YthempkdgmobocaaDoorM
open Go.Proofs.YthempkdgmobocaaDoorW.PrintWords

theorem run_err (ts : List S30) : ∀ (s : St) (p e : Int), run s ts = .error (p, e) → e ≠ 0 := by
  induction ts with
  | nil => intro s p e h; cases h
  | cons t ts ih =>
    intro s p e h
    simp only [run] at h
    split at h
    · exact ih _ _ _ h
    · cases h; assumption
theorem toS_shT (k : Int) (t : Tok) : toS (mv k t) = shT k (toS t) := rfl
theorem map_shT (k : Int) (l : List Tok) : (l.map (mv k)).map toS = (l.map toS).map (shT k) := by
  rw [List.map_map, List.map_map]; rfl
theorem lastK_append (a b : List S30) (k : Int) (h : b ≠ []) : lastK (a ++ b.map (shT k)) = lastK b := by
  unfold lastK
  rw [List.getLast?_append, List.getLast?_map]
  cases hb : b.getLast? with
  | none => exact absurd (List.getLast?_eq_none_iff.1 hb) h
  | some t => rfl
/-- what is read behind what was read whole. -/
theorem readT_join (a b : List S30) (A : List S46) (X : List Int) (k : Int) (ha : run ⟨[], [], []⟩ a = .ok ⟨A, X, []⟩) :
    readT (a ++ b.map (shT k)) = if (readT b).2.2.2 = 0 then (A ++ (readT b).1.map (shN A.length k), X ++ (readT b).2.1.map (· + (A.length : Int)), 0, 0) else ([], [], (readT b).2.2.1 + k, (readT b).2.2.2) := by
  have h1 : run ⟨[], [], []⟩ (a ++ b.map (shT k)) = (match run ⟨[], [], []⟩ b with | .error (p, e) => .error (p + k, e) | .ok s' => .ok (shS A X k s')) := by
    rw [run_append, ha]
    have := run_sh A X k b ⟨[], [], []⟩
    have e : shS A X k ⟨[], [], []⟩ = ⟨A, X, []⟩ := by simp [shS]
    rw [e] at this
    exact this
  unfold readT
  rw [h1]
  cases hb : run ⟨[], [], []⟩ b with
  | error z =>
    obtain ⟨p, e⟩ := z
    have e2 : fin2 b (.error (p, e)) = ([], [], p, e) := rfl
    have he : ¬ (([], [], p, e) : List S46 × List Int × Int × Int).2.2.2 = 0 := run_err _ _ _ _ hb
    rw [e2, if_neg he]
    rfl
  | ok s =>
    obtain ⟨row, tops, ops⟩ := s
    cases ops with
    | nil =>
      have e2 : fin2 b (.ok ⟨row, tops, []⟩) = (row, tops, 0, 0) := rfl
      rw [e2, if_pos rfl]
      rfl
    | cons o os =>
      have hb' : b ≠ [] := by rintro rfl; cases hb
      have e2 : fin2 b (.ok ⟨row, tops, o :: os⟩) = ([], [], o.p, if lastK b = 3 then 63 else 60) := rfl
      have he : ¬ (([], [], o.p, if lastK b = 3 then (63 : Int) else 60) : List S46 × List Int × Int × Int).2.2.2 = 0 := by
        show ¬ (if lastK b = 3 then (63 : Int) else 60) = 0
        split <;> decide
      rw [e2, if_neg he]
      show (([], [], (shO A.length k o).p, if lastK (a ++ b.map (shT k)) = 3 then (63 : Int) else 60) : List S46 × List Int × Int × Int) = _
      rw [lastK_append a b k hb']
      rfl
theorem lexR_ok (x : ByteArray) (hx : x.size ≤ 4000) : lexR x = fin [] (lexA x.data.toList 0) := by
  unfold lexR; rw [if_neg (by omega)]
theorem readR_split (x : ByteArray) (hx : x.size ≤ 4000) : (∃ q e, lexA x.data.toList 0 = .error (q, e) ∧ e ≠ 0 ∧ 0 ≤ q ∧ q ≤ x.size ∧ readR x = ([], [], q, e)) ∨ (∃ l, lexA x.data.toList 0 = .ok l ∧ readR x = readT (l.map toS)) := by
  unfold readR
  rw [lexR_ok x hx]
  cases h : lexA x.data.toList 0 with
  | error z =>
    obtain ⟨q, e⟩ := z
    have he := lexA_err _ _ _ _ h
    refine .inl ⟨q, e, rfl, he.1, he.2.1, by have := he.2.2; simpa using this, ?_⟩
    simp [fin, he.1]
  | ok l => exact .inr ⟨l, rfl, by rw [fin_ok]; rfl⟩
theorem readR_ok (x : ByteArray) (hx : x.size ≤ 4000) (l : List Tok) (h : lexA x.data.toList 0 = .ok l) : readR x = readT (l.map toS) := by
  have e : lexR x = (l.map toS, 0, 0) := by rw [lexR_ok x hx, h, fin_ok]
  unfold readR
  rw [e]
  rfl
theorem readT_zero (ts : List S30) (h : (readT ts).2.2.2 = 0) : ∃ A X, run ⟨[], [], []⟩ ts = .ok ⟨A, X, []⟩ ∧ readT ts = (A, X, 0, 0) := by
  unfold readT at h ⊢
  cases hr : run ⟨[], [], []⟩ ts with
  | error z =>
    obtain ⟨p, e⟩ := z
    rw [hr] at h
    exact absurd h (run_err _ _ _ _ hr)
  | ok s =>
    rw [hr] at h
    obtain ⟨A, X, ops⟩ := s
    cases ops with
    | nil => exact ⟨A, X, rfl, rfl⟩
    | cons o os =>
      simp only [fin2] at h
      exact absurd h (by split <;> decide)
/-- a text behind another. -/
theorem readR_join (x y z : ByteArray) (hx : x.size ≤ 1000) (hy : y.size ≤ 1000) (hz : z.data.toList = x.data.toList ++ 10 :: y.data.toList) (h0 : (readR x).2.2.2 = 0) :
    readR z = if (readR y).2.2.2 = 0 then ((readR x).1 ++ (readR y).1.map (shN (readR x).1.length (x.size + 1)), (readR x).2.1 ++ (readR y).2.1.map (· + ((readR x).1.length : Int)), 0, 0) else ([], [], (readR y).2.2.1 + (x.size + 1), (readR y).2.2.2) := by
  have lx : x.data.toList.length = x.size := by simp
  have ly : y.data.toList.length = y.size := by simp
  have lz : z.size = x.size + 1 + y.size := by
    have := congrArg List.length hz
    simp at this
    omega
  have hl : lexA z.data.toList 0 = then_ (lexA x.data.toList 0) (YthempkdgmobocaaDoorEd.move (x.size + 1) (lexA y.data.toList 0)) := by
    rw [hz, lexA_join, ← lexA_move, lx]
    congr 2
  rcases readR_split x (by omega) with ⟨q, e, _, he, _, _, h1⟩ | ⟨la, h1, h2⟩
  · rw [h1] at h0; exact absurd h0 he
  rw [h2] at h0
  obtain ⟨A, X, hr, h3⟩ := readT_zero _ h0
  rw [h1] at hl
  rcases readR_split y (by omega) with ⟨q, e, h4, he, hq0, hq1, h5⟩ | ⟨lb, h4, h5⟩
  · rw [h4] at hl
    have : readR z = ([], [], q + (x.size + 1), e) := by
      unfold readR
      rw [lexR_ok z (by omega), hl]
      simp [then_, YthempkdgmobocaaDoorEd.move, fin, he]
    rw [this, h5]
    rw [if_neg he]
  · rw [h4] at hl
    have : readR z = readT (la.map toS ++ (lb.map toS).map (shT (x.size + 1))) := by
      rw [← map_shT, ← List.map_append]
      exact readR_ok z (by omega) _ hl
    rw [this, readT_join _ _ A X _ hr, h5, h2, h3]
end Go.Proofs.YthempkdgmobocaaDoorRd
end
section
/- ReadJoins, over numbers and lists: texts one behind the other have the rows of both. -/
namespace Go.Proofs.YthempkdgmobocaaDoor.Pure
open Go Go.RowKit Go.Proofs.YthempkdgmobocaaDoorEd Go.Proofs.YthempkdgmobocaaDoorE Go.Proofs.YthempkdgmobocaaDoorX Go.Proofs.YthempkdgmobocaaDoorRd Go.Proofs.YthempkdgmobocaaDoorM Go.Proofs.YthempkdgmobocaaDoor.L Go.Proofs.YthempkdgmobocaaDoor.N Go.Proofs.YthempkdgmobocaaDoor.T
open Go.Proofs.YthempkdgmobocaaDoorW.PrintWords

theorem rdj_at (B : List S46) (i : Nat) (h : i < B.length) : rd_T46 B (i : Int) = B[i] := by
  unfold rd_T46
  simp [h]
theorem rdj_int (B : List Int) (i : Nat) (h : i < B.length) : rd B (i : Int) = B[i] := by
  unfold rd
  simp [h]
theorem rj_l1 (x0 : ByteArray) (x5 : Bool) (x6 : List S46) (x7 x11 : List Int) (x14 : List S46) (x15 : List Int) (x17 m : Int) (hm : 0 ≤ m ∧ m ≤ 1000000) (x82 : List S46) (x83 x84 : Int) (L : List Int) (hL : ∀ p ∈ L, 0 ≤ p ∧ p ≤ 1000000) (hLn : L.length ≤ 1000000) (p0 p1 p2 : Int) (p3 : ByteArray) (p4 : List Int) (h6 : x6.length ≤ 2000000) (d : Nat) : ∀ (k i : Nat) (acc : List Int), L.length - i = d → i ≤ L.length → acc.length = i →
    RJ6.l1 (k + d + 1) x0 x5 x6 x7 x11 x14 x15 x17 m acc x82 x83 x84 L (L.length : Int) (i : Int) p0 p1 p2 p3 p4 = RJ6.l0 k x0 x5 (x6 ++ [(⟨p0, p1, p2, p3, acc ++ (L.drop i).map (· + m)⟩ : S46)]) x7 x11 x14 x15 x17 m x82 x83 (wrap64 (x84 + 1)) := by
  induction d with
  | zero =>
    intro k i acc hd hi ha
    simp only [RJ6.l1]
    rw [if_neg (by omega), if_pos (by omega), List.drop_of_length_le (by omega)]
    simp only [List.map_nil, List.append_nil]
  | succ d ih =>
    intro k i acc hd hi ha
    have hlt : i < L.length := by omega
    have hb := hL _ (List.getElem_mem hlt)
    simp only [RJ6.l1]
    rw [if_pos (by omega), if_pos (by omega), if_pos (by omega), if_pos (by omega), rdj_int L i hlt]
    rw [YthempkdgmobocaaDoorM.wrap_small ((i : Int) + 1) (by omega) (by omega), YthempkdgmobocaaDoorM.wrap_small (L[i] + m) (by omega) (by omega)]
    have e : (i : Int) + 1 = ((i + 1 : Nat) : Int) := by omega
    rw [e]
    have hc : acc ++ (L.drop i).map (· + m) = (acc ++ [L[i] + m]) ++ (L.drop (i + 1)).map (· + m) := by
      rw [List.drop_eq_getElem_cons hlt, List.map_cons, List.append_assoc, List.singleton_append]
    rw [hc]
    exact ih k (i + 1) _ (by omega) (by omega) (by simp; omega)
theorem rj_l2 (x6 x14 : List S46) (x15 : List Int) (m : Int) (hm : 0 ≤ m ∧ m ≤ 1000000) (L : List Int) (hL : ∀ p ∈ L, 0 ≤ p ∧ p ≤ 1000000) (hLn : L.length ≤ 1000000) (d : Nat) : ∀ (k i : Nat) (acc : List Int), L.length - i = d → i ≤ L.length → acc.length ≤ 1000000 + i →
    RJ6.l2 (k + d + 1) true x6 acc x14 x15 0 m L (L.length : Int) (i : Int) = (same6C.f x14 x6).bind fun t180 => (if t180 = true then ((ints6C.f x15 (acc ++ (L.drop i).map (· + m))).bind fun t181 => (some t181)) else (some false)) := by
  induction d with
  | zero =>
    intro k i acc hd hi ha
    simp only [RJ6.l2]
    rw [if_neg (by omega), if_pos trivial, if_pos trivial, List.drop_of_length_le (by omega)]
    simp only [List.map_nil, List.append_nil]
  | succ d ih =>
    intro k i acc hd hi ha
    have hlt : i < L.length := by omega
    have hb := hL _ (List.getElem_mem hlt)
    simp only [RJ6.l2]
    rw [if_pos (by omega), if_pos (by omega), if_pos (by omega), if_pos (by omega), rdj_int L i hlt]
    rw [YthempkdgmobocaaDoorM.wrap_small ((i : Int) + 1) (by omega) (by omega), YthempkdgmobocaaDoorM.wrap_small (L[i] + m) (by omega) (by omega)]
    have e : (i : Int) + 1 = ((i + 1 : Nat) : Int) := by omega
    rw [e]
    have hc : acc ++ (L.drop i).map (· + m) = (acc ++ [L[i] + m]) ++ (L.drop (i + 1)).map (· + m) := by
      rw [List.drop_eq_getElem_cons hlt, List.map_cons, List.append_assoc, List.singleton_append]
    rw [hc]
    exact ih k (i + 1) _ (by omega) (by omega) (by simp; omega)
theorem rj_l0 (x0 : ByteArray) (hx : x0.size ≤ 1000) (x7 x11 : List Int) (x14 : List S46) (x15 : List Int) (m : Int) (hm : 0 ≤ m ∧ m ≤ 1000000) (B : List S46) (hBn : B.length ≤ 1000000) (hB : ∀ y ∈ B, (0 ≤ y.f1 ∧ y.f1 ≤ 1000) ∧ y.f4.length ≤ 1000000 ∧ ∀ p ∈ y.f4, 0 ≤ p ∧ p ≤ 1000000) (d : Nat) : ∀ (i : Nat) (acc : List S46), B.length - i = d → i ≤ B.length → acc.length ≤ 1000000 + i →
    ∃ c, ∀ k, RJ6.l0 (k + c) x0 true acc x7 x11 x14 x15 0 m B (B.length : Int) (i : Int) = RJ6.l2 k true (acc ++ (B.drop i).map (shN m ((x0.size : Int) + 1))) x7 x14 x15 0 m x11 (x11.length : Int) 0 := by
  induction d with
  | zero =>
    intro i acc hd hi ha
    refine ⟨1, fun k => ?_⟩
    simp only [RJ6.l0]
    rw [if_neg (by omega), List.drop_of_length_le (by omega)]
    simp only [List.map_nil, List.append_nil]
  | succ d ih =>
    intro i acc hd hi ha
    have hlt : i < B.length := by omega
    have hb := hB _ (List.getElem_mem hlt)
    obtain ⟨c, hc⟩ := ih (i + 1) (acc ++ [shN m ((x0.size : Int) + 1) B[i]]) (by omega) (by omega) (by simp; omega)
    refine ⟨c + B[i].f4.length + 1 + 1, fun k => ?_⟩
    have ek : k + (c + B[i].f4.length + 1 + 1) = (k + c + B[i].f4.length + 1) + 1 := by omega
    rw [ek]
    simp only [RJ6.l0]
    rw [if_pos (by omega), if_pos (by omega), if_pos (by omega), rdj_at B i hlt]
    have h1 := rj_l1 x0 true acc x7 x11 x14 x15 0 m hm B (B.length : Int) (i : Int) B[i].f4 hb.2.2 hb.2.1 B[i].f0 (wrap64 (B[i].f1 + (wrap64 ((x0.size : Int) + 1)))) B[i].f2 B[i].f3 B[i].f4 (by omega) B[i].f4.length (k + c) 0 [] rfl (Nat.zero_le _) rfl
    simp only [List.drop_zero, List.nil_append] at h1
    have h2 : RJ6.l1 (k + c + B[i].f4.length + 1) x0 true acc x7 x11 x14 x15 0 m [] B (B.length : Int) (i : Int) B[i].f4 (B[i].f4.length : Int) 0 B[i].f0 (wrap64 (B[i].f1 + (wrap64 ((x0.size : Int) + 1)))) B[i].f2 B[i].f3 B[i].f4 = _ := h1
    rw [h2]
    rw [YthempkdgmobocaaDoorM.wrap_small ((i : Int) + 1) (by omega) (by omega), YthempkdgmobocaaDoorM.wrap_small ((x0.size : Int) + 1) (by omega) (by omega), YthempkdgmobocaaDoorM.wrap_small (B[i].f1 + ((x0.size : Int) + 1)) (by omega) (by omega)]
    have e : (i : Int) + 1 = ((i + 1 : Nat) : Int) := by omega
    rw [e]
    have hcc : acc ++ (B.drop i).map (shN m ((x0.size : Int) + 1)) = (acc ++ [shN m ((x0.size : Int) + 1) B[i]]) ++ (B.drop (i + 1)).map (shN m ((x0.size : Int) + 1)) := by
      rw [List.drop_eq_getElem_cons hlt, List.map_cons, List.append_assoc, List.singleton_append]
    rw [hcc, ← hc k]
    rfl

/-- where a row's data stand. -/
theorem read_bounds (y : ByteArray) (hy : y.size ≤ 1000) (h0 : (readR y).2.2.2 = 0) :
    (∀ x ∈ (readR y).1, (0 ≤ x.f1 ∧ x.f1 ≤ 1000) ∧ x.f4.length ≤ 1000000 ∧ ∀ p ∈ x.f4, 0 ≤ p ∧ p ≤ 1000000) ∧ ∀ p ∈ (readR y).2.1, 0 ≤ p ∧ p ≤ 1000000 := by
  have hs := readR_sizes y
  rcases readR_split y (by omega) with ⟨q, e, _, he, _, _, h1⟩ | ⟨l, h1, h2⟩
  · rw [h1] at h0; exact absurd h0 he
  rw [h2] at h0
  obtain ⟨A, X, hr, h3⟩ := readT_zero _ h0
  rw [h2, h3] at hs ⊢
  have hw := run_whole _ _ _ whole_nil hr
  have hbd := lexA_bounds _ _ _ h1
  have hl : y.data.toList.length = y.size := by simp
  have he := run_every (fun _ p _ _ => 0 ≤ p ∧ p ≤ 1000) (fun p _ => 0 ≤ p ∧ p ≤ 1000) (fun p q h => h) _ ⟨[], [], []⟩ _ ⟨fun x hx => by simp at hx, fun o ho => by simp at ho⟩ (fun t ht => by
    obtain ⟨u, hu, rfl⟩ := List.mem_map.1 ht
    have hb := hbd u hu
    have hf : 0 ≤ (toS u).f1 ∧ (toS u).f1 ≤ 1000 := by show 0 ≤ u.pos ∧ u.pos ≤ 1000; omega
    exact ⟨fun _ => hf, fun _ => hf, fun _ => hf, fun _ => ⟨hf, hf⟩, fun _ _ _ _ _ => hf⟩) hr
  refine ⟨fun x hx => ⟨he.1 x hx, hs.2.2 x hx, fun p hp => ?_⟩, fun p hp => ?_⟩
  · obtain ⟨i, hi⟩ := List.getElem?_of_mem hx
    have := hw.ahead i x hi p hp
    have hi2 : i < A.length := (List.getElem?_eq_some_iff.1 hi).1
    have := hs.1
    dsimp only at this
    omega
  · have := hw.one p
    have hc : 0 < (places ⟨A, X, []⟩).count p := List.count_pos_iff.2 (by simp only [places, List.mem_append]; exact .inr (.inl hp))
    have h5 := hs.1
    dsimp only at this h5
    by_cases h4 : 0 ≤ p ∧ p < (A.length : Int)
    · omega
    · rw [if_neg h4] at this; omega

theorem run_pos (ts : List S30) : ∀ (s : St) (p e : Int), run s ts = .error (p, e) → ∃ t ∈ ts, p = t.f1 := by
  induction ts with
  | nil => intro s p e h; cases h
  | cons t ts ih =>
    intro s p e h
    simp only [run] at h
    split at h
    · obtain ⟨u, hu, e⟩ := ih _ _ _ h
      exact ⟨u, List.mem_cons_of_mem _ hu, e⟩
    · cases h; exact ⟨t, List.mem_cons_self .., rfl⟩
theorem read_pos (y : ByteArray) (hy : y.size ≤ 1000) : 0 ≤ (readR y).2.2.1 ∧ (readR y).2.2.1 ≤ 1000 := by
  rcases readR_split y (by omega) with ⟨q, e, _, he, h2, h3, h1⟩ | ⟨l, h1, h2⟩
  · rw [h1]; exact ⟨h2, by dsimp only; omega⟩
  rw [h2]
  have hbd := lexA_bounds _ _ _ h1
  have hl : y.data.toList.length = y.size := by simp
  have hf : ∀ t ∈ l.map toS, 0 ≤ t.f1 ∧ t.f1 ≤ 1000 := fun t ht => by
    obtain ⟨u, hu, rfl⟩ := List.mem_map.1 ht
    have hb := hbd u hu
    show 0 ≤ u.pos ∧ u.pos ≤ 1000
    omega
  unfold readT
  cases hr : run ⟨[], [], []⟩ (l.map toS) with
  | error z =>
    obtain ⟨p, e⟩ := z
    obtain ⟨t, ht, rfl⟩ := run_pos _ _ _ _ hr
    exact hf t ht
  | ok s =>
    have he := run_every (fun _ p _ _ => 0 ≤ p ∧ p ≤ 1000) (fun p _ => 0 ≤ p ∧ p ≤ 1000) (fun p q h => h) _ ⟨[], [], []⟩ _ ⟨fun x hx => by simp at hx, fun o ho => by simp at ho⟩ (fun t ht => by
      have hf := hf t ht
      exact ⟨fun _ => hf, fun _ => hf, fun _ => hf, fun _ => ⟨hf, hf⟩, fun _ _ _ _ _ => hf⟩) hr
    obtain ⟨A, X, ops⟩ := s
    cases ops with
    | nil => exact ⟨Int.le_refl _, show (0 : Int) ≤ 1000 by decide⟩
    | cons o os => exact he.2 o (List.mem_cons_self ..)

theorem ReadJoins : RJ6.Pure := by
  intro x y hx hy
  have big : ∀ k, RJ6.j0 (k + 1) x y true true = some true := fun k => by
    simp only [RJ6.j0, if_true]
  by_cases h1 : (x.size : Int) > 1000
  · refine ⟨1, ?_⟩
    unfold RJ6.f
    rw [shown6, Option.bind_some, if_pos h1]; exact big 0
  by_cases h2 : (y.size : Int) > 1000
  · refine ⟨1, ?_⟩
    unfold RJ6.f
    rw [shown6, Option.bind_some, if_neg h1, decide_eq_true h2]; exact big 0
  have key : ∃ k, RJ6.j0 (k + 1) x y true false = some true := by
    have hsz : (x ++ (⟨#[10]⟩ : ByteArray)).size = x.size + 1 := by rw [ByteArray.size_append]; rfl
    have hd : ((x ++ (⟨#[10]⟩ : ByteArray)) ++ y).data.toList = x.data.toList ++ 10 :: y.data.toList := by
      rw [append_list, append_list]; simp
    have hj := readR_join x y ((x ++ (⟨#[10]⟩ : ByteArray)) ++ y) (by omega) (by omega) hd
    have hsx := readR_sizes x
    have hsy := readR_sizes y
    have hsz3 := readR_sizes ((x ++ (⟨#[10]⟩ : ByteArray)) ++ y)
    by_cases h0 : (readR x).2.2.2 = 0
    · have hj := hj h0
      by_cases h3 : (readR y).2.2.2 = 0
      · rw [if_pos h3] at hj
        have hb := read_bounds y (by omega) h3
        obtain ⟨c, hc⟩ := rj_l0 x (by omega) (readR x).2.1 (readR y).2.1 ((readR x).1 ++ (readR y).1.map (shN (readR x).1.length (x.size + 1))) ((readR x).2.1 ++ (readR y).2.1.map (· + ((readR x).1.length : Int))) ((readR x).1.length : Int) (by omega) (readR y).1 hsy.1 hb.1 _ 0 (readR x).1 rfl (Nat.zero_le _) (by omega)
        have h5 := rj_l2 ((readR x).1 ++ (readR y).1.map (shN (readR x).1.length (x.size + 1))) ((readR x).1 ++ (readR y).1.map (shN (readR x).1.length (x.size + 1))) ((readR x).2.1 ++ (readR y).2.1.map (· + ((readR x).1.length : Int))) ((readR x).1.length : Int) (by omega) (readR y).2.1 hb.2 hsy.2.1 _ 0 0 (readR x).2.1 rfl (Nat.zero_le _) (by omega)
        have h6 := hc (0 + ((readR y).2.1.length - 0) + 1)
        refine ⟨(0 + ((readR y).2.1.length - 0) + 1) + c, ?_⟩
        rw [hj] at hsz3
        simp only [List.drop_zero] at h5 h6
        have h5' := h6.trans h5
        simp only [RJ6.j0]
        unfold readC.f
        rw [if_neg (show ¬ (false = true) by simp), Option.bind_some, Option.bind_some, if_pos h0, if_pos (by omega), if_pos (by rw [hsz]; omega), Option.bind_some, if_pos h3, hj]
        refine h5'.trans ?_
        rw [same6C_refl _ hsz3.1 hsz3.2.2, Option.bind_some, if_pos rfl, ints6C_refl _ hsz3.2.1, Option.bind_some]
      · rw [if_neg h3] at hj
        refine ⟨0, ?_⟩
        simp only [RJ6.j0]
        unfold readC.f
        rw [if_neg (show ¬ (false = true) by simp), Option.bind_some, Option.bind_some, if_pos h0, if_pos (by omega), if_pos (by rw [hsz]; omega), Option.bind_some, if_neg h3, hj, if_pos rfl, if_pos trivial]
        have hq := read_pos y (by omega)
        rw [YthempkdgmobocaaDoorM.wrap_small ((readR y).2.2.1 + (x.size : Int)) (by omega) (by omega), YthempkdgmobocaaDoorM.wrap_small _ (by omega) (by omega)]
        simp; omega
    · refine ⟨0, ?_⟩
      simp only [RJ6.j0]
      unfold readC.f
      rw [if_neg (show ¬ (false = true) by simp), Option.bind_some, Option.bind_some, if_neg h0]
  obtain ⟨k, hk⟩ := key
  refine ⟨k + 1, ?_⟩
  unfold RJ6.f
  rw [shown6, Option.bind_some, if_neg h1, decide_eq_false h2]
  exact hk
end Go.Proofs.YthempkdgmobocaaDoor.Pure
end
