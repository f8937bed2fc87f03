/- Texts of this claim, one behind the other: PureReadPlays, Me, Mf, PureReadDeep. -/
import Derived.Test.YthempkdgmobocaaDoorBg
import Derived.Test.YthempkdgmobocaaDoorBt
import Derived.OpenShut
import Derived.Test.YthempkdgmobocaaDoorBx
section
/- ReadPlays, over numbers and lists: the two readers, which both compute the plain law, agree. -/
namespace Go.Proofs.YthempkdgmobocaaDoor.Pure
open Go Go.RowKit Go.Proofs.YthempkdgmobocaaDoorEd Go.Proofs.YthempkdgmobocaaDoorE Go.Proofs.YthempkdgmobocaaDoorX Go.Proofs.YthempkdgmobocaaDoorRd Go.Proofs.YthempkdgmobocaaDoor.L Go.Proofs.YthempkdgmobocaaDoor.N Go.Proofs.YthempkdgmobocaaDoor.T
open Go.Proofs.YthempkdgmobocaaDoorW.PrintWords

theorem shown6 : eddywheellaw06_shown.f = some true := by
  have h : readC.f (⟨#[40, 97, 32, 39, 98, 41]⟩ : ByteArray) = some _ := congrArg some read_1
  unfold eddywheellaw06_shown.f
  rw [h, Option.bind_some, if_pos rfl, if_pos rfl, ints6C_refl _ (by simp), Option.bind_some, if_pos rfl, same6C_refl _ (by simp) (by simp), Option.bind_some]
theorem ReadPlays : eddywheellaw06_ReadPlays.Pure := by
  intro x hx
  unfold eddywheellaw06_ReadPlays.f
  rw [shown6, Option.bind_some]
  by_cases h : (x.size : Int) > 4500
  · rw [if_pos h]
  · rw [if_neg h]
    have hs := readR_sizes x
    unfold readC.f refReadC.f
    rw [Option.bind_some, Option.bind_some, if_pos rfl, same6C_refl _ hs.1 hs.2.2, Option.bind_some, if_pos rfl, ints6C_refl _ hs.2.1, Option.bind_some, if_pos rfl, if_pos rfl, beq_self_eq_true]
end Go.Proofs.YthempkdgmobocaaDoor.Pure
end
section
/- The plain law of the reader: texts one behind the other. -/
namespace Go.Proofs.YthempkdgmobocaaDoorRd
open Go Go.Proofs.YthempkdgmobocaaDoorEd Go.Proofs.YthempkdgmobocaaDoorE Go.Proofs.YthempkdgmobocaaDoorX Go.Proofs.YthempkdgmobocaaDoor.L Go.Proofs.YthempkdgmobocaaDoor.N Go.Proofs.YthempkdgmobocaaDoorM
open Go.Proofs.YthempkdgmobocaaDoorW.PrintWords

theorem run_err (ts : List S30) : ∀ (s : St) (p e : Int), run s ts = .error (p, e) → e ≠ 0 := by
  induction ts with
  | nil => intro s p e h; cases h
  | cons t ts ih =>
    intro s p e h
    simp only [run] at h
    split at h
    · exact ih _ _ _ h
    · cases h; assumption
theorem toS_shT (k : Int) (t : Tok) : toS (mv k t) = shT k (toS t) := rfl
theorem map_shT (k : Int) (l : List Tok) : (l.map (mv k)).map toS = (l.map toS).map (shT k) := by
  rw [List.map_map, List.map_map]; rfl
theorem lastK_append (a b : List S30) (k : Int) (h : b ≠ []) : lastK (a ++ b.map (shT k)) = lastK b := by
  unfold lastK
  rw [List.getLast?_append, List.getLast?_map]
  cases hb : b.getLast? with
  | none => exact absurd (List.getLast?_eq_none_iff.1 hb) h
  | some t => rfl
/-- what is read behind what was read whole. -/
theorem readT_join (a b : List S30) (A : List S46) (X : List Int) (k : Int) (ha : run ⟨[], [], []⟩ a = .ok ⟨A, X, []⟩) :
    readT (a ++ b.map (shT k)) = if (readT b).2.2.2 = 0 then (A ++ (readT b).1.map (shN A.length k), X ++ (readT b).2.1.map (· + (A.length : Int)), 0, 0) else ([], [], (readT b).2.2.1 + k, (readT b).2.2.2) := by
  have h1 : run ⟨[], [], []⟩ (a ++ b.map (shT k)) = (match run ⟨[], [], []⟩ b with | .error (p, e) => .error (p + k, e) | .ok s' => .ok (shS A X k s')) := by
    rw [run_append, ha]
    have := run_sh A X k b ⟨[], [], []⟩
    have e : shS A X k ⟨[], [], []⟩ = ⟨A, X, []⟩ := by simp [shS]
    rw [e] at this
    exact this
  unfold readT
  rw [h1]
  cases hb : run ⟨[], [], []⟩ b with
  | error z =>
    obtain ⟨p, e⟩ := z
    have e2 : fin2 b (.error (p, e)) = ([], [], p, e) := rfl
    have he : ¬ (([], [], p, e) : List S46 × List Int × Int × Int).2.2.2 = 0 := run_err _ _ _ _ hb
    rw [e2, if_neg he]
    rfl
  | ok s =>
    obtain ⟨row, tops, ops⟩ := s
    cases ops with
    | nil =>
      have e2 : fin2 b (.ok ⟨row, tops, []⟩) = (row, tops, 0, 0) := rfl
      rw [e2, if_pos rfl]
      rfl
    | cons o os =>
      have hb' : b ≠ [] := by rintro rfl; cases hb
      have e2 : fin2 b (.ok ⟨row, tops, o :: os⟩) = ([], [], o.p, if lastK b = 3 then 63 else 60) := rfl
      have he : ¬ (([], [], o.p, if lastK b = 3 then (63 : Int) else 60) : List S46 × List Int × Int × Int).2.2.2 = 0 := by
        show ¬ (if lastK b = 3 then (63 : Int) else 60) = 0
        split <;> decide
      rw [e2, if_neg he]
      show (([], [], (shO A.length k o).p, if lastK (a ++ b.map (shT k)) = 3 then (63 : Int) else 60) : List S46 × List Int × Int × Int) = _
      rw [lastK_append a b k hb']
      rfl
theorem lexR_ok (x : ByteArray) (hx : x.size ≤ 4000) : lexR x = fin [] (lexA x.data.toList 0) := by
  unfold lexR; rw [if_neg (by omega)]
theorem readR_split (x : ByteArray) (hx : x.size ≤ 4000) : (∃ q e, lexA x.data.toList 0 = .error (q, e) ∧ e ≠ 0 ∧ 0 ≤ q ∧ q ≤ x.size ∧ readR x = ([], [], q, e)) ∨ (∃ l, lexA x.data.toList 0 = .ok l ∧ readR x = readT (l.map toS)) := by
  unfold readR
  rw [lexR_ok x hx]
  cases h : lexA x.data.toList 0 with
  | error z =>
    obtain ⟨q, e⟩ := z
    have he := lexA_err _ _ _ _ h
    refine .inl ⟨q, e, rfl, he.1, he.2.1, by have := he.2.2; simpa using this, ?_⟩
    simp [fin, he.1]
  | ok l => exact .inr ⟨l, rfl, by rw [fin_ok]; rfl⟩
theorem readR_ok (x : ByteArray) (hx : x.size ≤ 4000) (l : List Tok) (h : lexA x.data.toList 0 = .ok l) : readR x = readT (l.map toS) := by
  have e : lexR x = (l.map toS, 0, 0) := by rw [lexR_ok x hx, h, fin_ok]
  unfold readR
  rw [e]
  rfl
theorem readT_zero (ts : List S30) (h : (readT ts).2.2.2 = 0) : ∃ A X, run ⟨[], [], []⟩ ts = .ok ⟨A, X, []⟩ ∧ readT ts = (A, X, 0, 0) := by
  unfold readT at h ⊢
  cases hr : run ⟨[], [], []⟩ ts with
  | error z =>
    obtain ⟨p, e⟩ := z
    rw [hr] at h
    exact absurd h (run_err _ _ _ _ hr)
  | ok s =>
    rw [hr] at h
    obtain ⟨A, X, ops⟩ := s
    cases ops with
    | nil => exact ⟨A, X, rfl, rfl⟩
    | cons o os =>
      simp only [fin2] at h
      exact absurd h (by split <;> decide)
end Go.Proofs.YthempkdgmobocaaDoorRd
end
section
/- The plain law of the reader: texts of quotes and brackets. -/
namespace Go.Proofs.YthempkdgmobocaaDoorRd
open Go Go.Proofs.YthempkdgmobocaaDoorEd Go.Proofs.YthempkdgmobocaaDoorE Go.Proofs.YthempkdgmobocaaDoorX Go.Proofs.YthempkdgmobocaaDoor.L Go.Proofs.YthempkdgmobocaaDoor.N Go.Proofs.YthempkdgmobocaaDoorM
open Go.Proofs.YthempkdgmobocaaDoorW.PrintWords

theorem lex_39 (s : List UInt8) (p : Int) : lexA (39 :: s) p = cons ⟨3, p, 0, []⟩ (lexA s (p + 1)) := by
  rw [lexA_cons, if_neg (by decide), if_neg (by decide), if_neg (by decide), if_neg (by decide), if_pos (by decide)]
theorem lex_40 (s : List UInt8) (p : Int) : lexA (40 :: s) p = cons ⟨1, p, 0, []⟩ (lexA s (p + 1)) := by
  rw [lexA_cons, if_neg (by decide), if_neg (by decide), if_pos (by decide)]
theorem lex_41 (s : List UInt8) (p : Int) : lexA (41 :: s) p = cons ⟨2, p, 0, []⟩ (lexA s (p + 1)) := by
  rw [lexA_cons, if_neg (by decide), if_neg (by decide), if_neg (by decide), if_pos (by decide)]
theorem lex_qs (q : Nat) : ∀ (s : List UInt8) (p : Int) (l : List Tok), lexA s (p + q) = .ok l → ∃ l', lexA (List.replicate q 39 ++ s) p = .ok l' ∧ l'.map toS = quotes p q ++ l.map toS := by
  induction q with
  | zero =>
    intro s p l h
    have e : p + ((0 : Nat) : Int) = p := by omega
    rw [e] at h
    exact ⟨l, h, rfl⟩
  | succ q ih =>
    intro s p l h
    have e : p + ((q + 1 : Nat) : Int) = p + 1 + q := by omega
    rw [e] at h
    obtain ⟨l', h1, h2⟩ := ih s (p + 1) l h
    refine ⟨⟨3, p, 0, []⟩ :: l', ?_, ?_⟩
    · rw [List.replicate_succ, List.cons_append, lex_39, h1]; rfl
    · rw [List.map_cons, h2]; rfl
theorem lex_os (q : Nat) : ∀ (s : List UInt8) (p : Int) (l : List Tok), lexA s (p + q) = .ok l → ∃ l', lexA (List.replicate q 40 ++ s) p = .ok l' ∧ l'.map toS = opens p q ++ l.map toS := by
  induction q with
  | zero =>
    intro s p l h
    have e : p + ((0 : Nat) : Int) = p := by omega
    rw [e] at h
    exact ⟨l, h, rfl⟩
  | succ q ih =>
    intro s p l h
    have e : p + ((q + 1 : Nat) : Int) = p + 1 + q := by omega
    rw [e] at h
    obtain ⟨l', h1, h2⟩ := ih s (p + 1) l h
    refine ⟨⟨1, p, 0, []⟩ :: l', ?_, ?_⟩
    · rw [List.replicate_succ, List.cons_append, lex_40, h1]; rfl
    · rw [List.map_cons, h2]; rfl
theorem lex_cs (q : Nat) : ∀ (p : Int), ∃ l', lexA (List.replicate q 41) p = .ok l' ∧ l'.map toS = closes p q := by
  induction q with
  | zero => intro p; exact ⟨[], lexA_nil p, rfl⟩
  | succ q ih =>
    intro p
    obtain ⟨l', h1, h2⟩ := ih (p + 1)
    refine ⟨⟨2, p, 0, []⟩ :: l', ?_, ?_⟩
    · rw [List.replicate_succ, lex_41, h1]; rfl
    · rw [List.map_cons, h2]; rfl
theorem lex_x (m : Nat) (p : Int) : lexA (120 :: List.replicate m 41) p = cons ⟨6, p, 0, [120]⟩ (lexA (List.replicate m 41) (p + 1)) := by
  have ht : (List.replicate m (41 : UInt8)).takeWhile isLet = [] := by cases m <;> rfl
  have hd : (List.replicate m (41 : UInt8)).dropWhile isLet = List.replicate m 41 := by cases m <;> rfl
  have ho : one [120] p = .ok ⟨6, p, 0, [120]⟩ := by rfl
  rw [lexA_cons, if_neg (by decide), if_neg (by decide), if_neg (by decide), if_neg (by decide), if_neg (by decide), if_neg (by decide), if_pos (by decide), ht, hd, ho]
  have e : p + 1 + (([] : List UInt8).length : Int) = p + 1 := by simp
  rw [e]
theorem lex_open (q m : Nat) : ∃ l, lexA (List.replicate q 39 ++ List.replicate m 40) 0 = .ok l ∧ l.map toS = quotes 0 q ++ opens q m := by
  obtain ⟨l1, h1, h2⟩ := lex_os m [] (0 + q) [] (lexA_nil _)
  rw [List.append_nil] at h1
  obtain ⟨l2, h3, h4⟩ := lex_qs q (List.replicate m 40) 0 l1 h1
  refine ⟨l2, h3, ?_⟩
  rw [h4, h2, Int.zero_add]
  simp
theorem lex_full (q m : Nat) : ∃ l, lexA (List.replicate q 39 ++ (List.replicate m 40 ++ (120 :: List.replicate m 41))) 0 = .ok l ∧ l.map toS = quotes 0 q ++ (opens q m ++ (⟨6, ((q + m : Nat) : Int), 0, ⟨#[120]⟩⟩ :: closes (((q + m : Nat) : Int) + 1) m)) := by
  obtain ⟨l0, h0, h00⟩ := lex_cs m ((0 : Int) + q + m + 1)
  have hx := lex_x m ((0 : Int) + q + m)
  rw [h0] at hx
  obtain ⟨l1, h1, h2⟩ := lex_os m (120 :: List.replicate m 41) (0 + q) _ hx
  obtain ⟨l2, h3, h4⟩ := lex_qs q _ 0 l1 h1
  refine ⟨l2, h3, ?_⟩
  have e : (0 : Int) + q + m = ((q + m : Nat) : Int) := by omega
  rw [h4, h2, List.map_cons, h00, e, Int.zero_add]
  rfl
theorem lastK_opens (A : List S30) (p : Int) (m : Nat) : lastK (A ++ opens p (m + 1)) = 1 := by
  have : ∀ (m : Nat) (p : Int), (opens p (m + 1)).getLast? = some ⟨1, p + m, 0, noS⟩ := by
    intro m
    induction m with
    | zero => intro p; simp [opens]
    | succ m ih =>
      intro p
      have e : opens p (m + 1 + 1) = ⟨1, p, 0, noS⟩ :: opens (p + 1) (m + 1) := rfl
      have := ih (p + 1)
      rw [e, List.getLast?_cons, this]
      simp; omega
  unfold lastK
  rw [List.getLast?_append, this]
  rfl
theorem lastK_quotes (p : Int) (m : Nat) : lastK (quotes p (m + 1)) = 3 := by
  have : ∀ (m : Nat) (p : Int), (quotes p (m + 1)).getLast? = some ⟨3, p + m, 0, noS⟩ := by
    intro m
    induction m with
    | zero => intro p; simp [quotes]
    | succ m ih =>
      intro p
      have e : quotes p (m + 1 + 1) = ⟨3, p, 0, noS⟩ :: quotes (p + 1) (m + 1) := rfl
      have := ih (p + 1)
      rw [e, List.getLast?_cons, this]
      simp; omega
  unfold lastK
  rw [this]
/-- the reader of a text of open lists. -/
theorem read_deep (x : ByteArray) (q m : Nat) (hx : x.data.toList = List.replicate q 39 ++ List.replicate m 40) (hs : q + m ≤ 60) :
    (50 < q + m → (readR x).2.2.1 = 50 ∧ (readR x).2.2.2 = 62) ∧
    (q + m ≤ 50 → 0 < q + m → (readR x).2.2.1 = ((q + m : Nat) : Int) - 1 ∧ (readR x).2.2.2 = if m = 0 then 63 else 60) ∧
    (q + m = 0 → (readR x).2.2.1 = 0 ∧ (readR x).2.2.2 = 0) := by
  obtain ⟨l, h1, h2⟩ := lex_open q m
  have hz : x.size = q + m := by
    have := congrArg List.length hx
    simp at this
    exact this
  rw [← hx] at h1
  rw [readR_ok x (by omega) l h1, h2]
  unfold readT
  have hq := run_quotes q ⟨[], [], []⟩ 0 0 (opens q m) (opened_nil 0)
  by_cases h5 : 0 + q ≤ 50
  · rw [if_pos h5] at hq
    obtain ⟨s, h6, h7⟩ := hq
    rw [h6]
    have ho := run_opens m s (0 + q) 0 (0 + q) [] h7
    rw [List.append_nil, Int.zero_add] at ho
    by_cases h8 : 0 + (0 + q) + m ≤ 50
    · rw [if_pos h8] at ho
      obtain ⟨s', h9, h10⟩ := ho
      rw [h9]
      simp only [run]
      obtain ⟨ps, qs, h11, h12, h13, _, _⟩ := h10.ops
      refine ⟨fun h => by omega, fun _ h => ?_, fun h => ?_⟩
      · cases hops : s'.ops with
        | nil =>
          rw [hops] at h11
          have := congrArg List.length h11
          simp at this
          omega
        | cons o os =>
          have h14 := h10.at_ o os hops
          simp only [fin2, hops]
          refine ⟨by rw [h14]; omega, ?_⟩
          cases m with
          | zero =>
            have hq0 : q = (q - 1) + 1 := by omega
            rw [if_pos rfl]
            have : opens (q : Int) 0 = [] := rfl
            rw [this, List.append_nil, hq0, lastK_quotes, if_pos rfl]
          | succ m =>
            rw [lastK_opens, if_neg (by decide), if_neg (by omega)]
      · have : s'.ops = [] := by
          rw [h11]
          have e1 : ps = [] := List.eq_nil_of_length_eq_zero (by omega)
          have e2 : qs = [] := List.eq_nil_of_length_eq_zero (by omega)
          rw [e1, e2]; rfl
        simp only [fin2, this]
        exact ⟨trivial, trivial⟩
    · rw [if_neg h8] at ho
      rw [ho (by omega)]
      simp only [fin2]
      exact ⟨fun _ => ⟨by omega, trivial⟩, fun h => by omega, fun h => by omega⟩
  · rw [if_neg h5] at hq
    rw [hq (by omega)]
    simp only [fin2]
    exact ⟨fun _ => ⟨by omega, trivial⟩, fun h => by omega, fun h => by omega⟩
/-- and of one where they are closed. -/
theorem read_full (x : ByteArray) (q m : Nat) (hx : x.data.toList = List.replicate q 39 ++ (List.replicate m 40 ++ (120 :: List.replicate m 41))) (hs : q + m ≤ 60) :
    (50 < q + m → (readR x).1 = [] ∧ (readR x).2.2.2 = 62) ∧
    (q + m ≤ 50 → (readR x).1.length = 1 + (m + q) + q ∧ (readR x).2.1.length = 1 ∧ (readR x).2.2.2 = 0) := by
  obtain ⟨l, h1, h2⟩ := lex_full q m
  have hz : x.size = q + m + 1 + m := by
    have := congrArg List.length hx
    simp at this
    omega
  rw [← hx] at h1
  rw [readR_ok x (by omega) l h1, h2]
  unfold readT
  have hq := run_quotes q ⟨[], [], []⟩ 0 0 (opens q m ++ (⟨6, ((q + m : Nat) : Int), 0, ⟨#[120]⟩⟩ :: closes (((q + m : Nat) : Int) + 1) m)) (opened_nil 0)
  by_cases h5 : 0 + q ≤ 50
  · rw [if_pos h5] at hq
    obtain ⟨s, h6, h7⟩ := hq
    rw [h6]
    have ho := run_opens m s (0 + q) 0 (0 + q) (⟨6, ((q + m : Nat) : Int), 0, ⟨#[120]⟩⟩ :: closes (((q + m : Nat) : Int) + 1) m) h7
    rw [Int.zero_add] at ho
    by_cases h8 : 0 + (0 + q) + m ≤ 50
    · rw [if_pos h8] at ho
      obtain ⟨s', h9, h10⟩ := ho
      rw [h9]
      have e : (q : Int) + m = ((q + m : Nat) : Int) := by omega
      rw [e] at h10
      obtain ⟨s2, h11, h12, h13, h14⟩ := run_within s' _ _ _ h10 ⟨#[120]⟩
      rw [Nat.zero_add] at h11
      rw [h11]
      simp only [fin2, h14]
      exact ⟨fun h => by omega, fun _ => ⟨by rw [h12]; omega, h13, trivial⟩⟩
    · rw [if_neg h8] at ho
      rw [ho (by omega)]
      simp only [fin2]
      exact ⟨fun _ => ⟨trivial, trivial⟩, fun h => by omega⟩
  · rw [if_neg h5] at hq
    rw [hq (by omega)]
    simp only [fin2]
    exact ⟨fun _ => ⟨trivial, trivial⟩, fun h => by omega⟩
theorem read_x : (readR (⟨#[120, 41]⟩ : ByteArray)).2.2 = (1, 61) := by
  have h : lexA [120, 41] 0 = .ok [⟨6, 0, 0, [120]⟩, ⟨2, 1, 0, []⟩] := by rfl
  rw [readR_ok (⟨#[120, 41]⟩ : ByteArray) (by decide) _ h]
  rfl
end Go.Proofs.YthempkdgmobocaaDoorRd
end
section
/- ReadDeep, over numbers and lists: lists within quotes, as many as may be open, and no more. -/
namespace Go.Proofs.YthempkdgmobocaaDoor.Pure
open Go Go.RowKit Go.Proofs.YthempkdgmobocaaDoorEd Go.Proofs.YthempkdgmobocaaDoorE Go.Proofs.YthempkdgmobocaaDoorX Go.Proofs.YthempkdgmobocaaDoorRd Go.Proofs.YthempkdgmobocaaDoorM Go.Proofs.YthempkdgmobocaaDoor.L Go.Proofs.YthempkdgmobocaaDoor.N Go.Proofs.YthempkdgmobocaaDoor.T
open Go.Proofs.YthempkdgmobocaaDoorW.PrintWords

theorem rdd_l0 (n q : Nat) (hq : q ≤ n) (hn : n ≤ 60) (d : Nat) : ∀ (k i : Nat) (x : ByteArray), n - i = d → i ≤ n → x.size ≤ i →
    ∃ y : ByteArray, y.data.toList = x.data.toList ++ (List.replicate (q - i) 39 ++ List.replicate (n - max i q) 40) ∧ y.size ≤ n ∧
      RD6.l0 (k + d + 1) true (n : Int) (q : Int) x (n : Int) (i : Int) = RD6.l1 k true (n : Int) (q : Int) y (⟨#[]⟩ : ByteArray) (wrap64 ((n : Int) - (q : Int))) 0 := by
  induction d with
  | zero =>
    intro k i x hd hi hx
    refine ⟨x, ?_, by omega, ?_⟩
    · rw [show q - i = 0 by omega, show n - max i q = 0 by omega]
      simp
    · simp only [RD6.l0]
      rw [if_neg (by omega)]
  | succ d ih =>
    intro k i x hd hi hx
    have e : (i : Int) + 1 = ((i + 1 : Nat) : Int) := by omega
    have es : ∀ b : UInt8, (x ++ (⟨#[b]⟩ : ByteArray)).size ≤ i + 1 := fun b => by
      rw [ByteArray.size_append]
      show x.size + 1 ≤ i + 1
      omega
    have el : ∀ b : UInt8, (x ++ (⟨#[b]⟩ : ByteArray)).data.toList = x.data.toList ++ [b] := fun b => by
      rw [append_list]
    by_cases h : i < q
    · obtain ⟨y, h1, h2, h3⟩ := ih k (i + 1) (x ++ (⟨#[39]⟩ : ByteArray)) (by omega) (by omega) (es _)
      refine ⟨y, ?_, h2, ?_⟩
      · rw [h1, el, show q - i = (q - (i + 1)) + 1 by omega, show max (i + 1) q = max i q by omega, List.replicate_succ]
        simp
      · show RD6.l0 ((k + d + 1) + 1) _ _ _ _ _ _ = _
        simp only [RD6.l0]
        rw [if_pos (by omega), if_pos (by omega), if_pos (by omega), YthempkdgmobocaaDoorM.wrap_small ((i : Int) + 1) (by omega) (by omega), e]
        exact h3
    · obtain ⟨y, h1, h2, h3⟩ := ih k (i + 1) (x ++ (⟨#[40]⟩ : ByteArray)) (by omega) (by omega) (es _)
      refine ⟨y, ?_, h2, ?_⟩
      · rw [h1, el, show q - i = 0 by omega, show q - (i + 1) = 0 by omega, show n - max i q = (n - max (i + 1) q) + 1 by omega, List.replicate_succ]
        simp
      · show RD6.l0 ((k + d + 1) + 1) _ _ _ _ _ _ = _
        simp only [RD6.l0]
        rw [if_pos (by omega), if_neg (by omega), if_pos (by omega), YthempkdgmobocaaDoorM.wrap_small ((i : Int) + 1) (by omega) (by omega), e]
        exact h3
theorem rdd_l1 (n q : Nat) (x8 : ByteArray) (m : Nat) (hm : m ≤ 60) (d : Nat) : ∀ (k j : Nat) (x : ByteArray), m - j = d → j ≤ m → x.size ≤ j →
    ∃ y : ByteArray, y.data.toList = x.data.toList ++ List.replicate (m - j) 41 ∧ y.size ≤ m ∧
      RD6.l1 (k + d + 1) true (n : Int) (q : Int) x8 x (m : Int) (j : Int) = RD6.l1 (k + 1) true (n : Int) (q : Int) x8 y (m : Int) (m : Int) := by
  induction d with
  | zero =>
    intro k j x hd hj hx
    refine ⟨x, ?_, by omega, ?_⟩
    · rw [show m - j = 0 by omega]; simp
    · rw [show j = m by omega]
  | succ d ih =>
    intro k j x hd hj hx
    have e : (j : Int) + 1 = ((j + 1 : Nat) : Int) := by omega
    obtain ⟨y, h1, h2, h3⟩ := ih k (j + 1) (x ++ (⟨#[41]⟩ : ByteArray)) (by omega) (by omega) (by
      rw [ByteArray.size_append]
      show x.size + 1 ≤ j + 1
      omega)
    refine ⟨y, ?_, h2, ?_⟩
    · rw [h1, append_list, show m - j = (m - (j + 1)) + 1 by omega, List.replicate_succ]
      simp
    · rw [← h3, show k + (d + 1) + 1 = (k + d + 1) + 1 by omega]
      have : RD6.l1 ((k + d + 1) + 1) true (n : Int) (q : Int) x8 x (m : Int) (j : Int) = RD6.l1 (k + d + 1) true (n : Int) (q : Int) x8 (x ++ (⟨#[41]⟩ : ByteArray)) (m : Int) ((j + 1 : Nat) : Int) := by
        rw [RD6.l1, if_pos (by omega), if_pos (by omega), YthempkdgmobocaaDoorM.wrap_small ((j : Int) + 1) (by omega) (by omega), e]
      exact this
theorem rdd_end (n q m : Nat) (hn : n = q + m) (h60 : n ≤ 60) (k : Nat) (x y : ByteArray) (hx : x.data.toList = List.replicate q 39 ++ List.replicate m 40) (hy : y.data.toList = List.replicate m 41) :
    RD6.l1 (k + 1) true (n : Int) (q : Int) x y (m : Int) (m : Int) = some true := by
  have sx : x.size = q + m := by have := congrArg List.length hx; simp at this; exact this
  have sy : y.size = m := by have := congrArg List.length hy; simp at this; exact this
  have hz : ((x ++ (⟨#[120]⟩ : ByteArray)) ++ y).data.toList = List.replicate q 39 ++ (List.replicate m 40 ++ (120 :: List.replicate m 41)) := by
    rw [append_list, append_list, hx, hy]; simp
  have sz : (x ++ (⟨#[120]⟩ : ByteArray)).size = x.size + 1 := by rw [ByteArray.size_append]; rfl
  have r1 := read_deep x q m hx (by omega)
  have r2 := read_full _ q m hz (by omega)
  have r3 : (readR (⟨#[120, 41]⟩ : ByteArray)).2.2.1 = 1 := congrArg Prod.fst read_x
  have r4 : (readR (⟨#[120, 41]⟩ : ByteArray)).2.2.2 = 61 := congrArg Prod.snd read_x
  have w1 : wrap64 ((n : Int) - 1) = (n : Int) - 1 := YthempkdgmobocaaDoorM.wrap_small _ (by omega) (by omega)
  have w2 : wrap64 ((wrap64 (1 + (n : Int))) + (q : Int)) = 1 + n + q := by
    rw [YthempkdgmobocaaDoorM.wrap_small (1 + (n : Int)) (by omega) (by omega), YthempkdgmobocaaDoorM.wrap_small _ (by omega) (by omega)]
  rw [RD6.l1, if_neg (by omega)]
  unfold readC.f
  rw [Option.bind_some, if_pos (by omega), if_pos (by omega), Option.bind_some, Option.bind_some]
  by_cases h50 : 50 < q + m
  · rw [if_pos (by omega), if_pos rfl, if_pos (r1.1 h50).2, if_pos (r1.1 h50).1, if_pos (r2.1 h50).2, (r2.1 h50).1]
    rfl
  rw [if_neg (by omega)]
  have r5 := r2.2 (by omega)
  have hlen : (((readR ((x ++ (⟨#[120]⟩ : ByteArray)) ++ y)).1.length : Nat) : Int) = wrap64 ((wrap64 (1 + (n : Int))) + (q : Int)) := by rw [w2]; omega
  have hone : (((readR ((x ++ (⟨#[120]⟩ : ByteArray)) ++ y)).2.1.length : Nat) : Int) = 1 := by omega
  have last : (some ((readR (⟨#[120, 41]⟩ : ByteArray)).2.2.2 == 61)) = some true := by rw [r4]; rfl
  by_cases h0 : n = 0
  · have hat : (readR x).2.2.1 = mx (wrap64 ((n : Int) - 1)) 0 := by
      rw [w1, (r1.2.2 (by omega)).1]; unfold mx; rw [if_pos (by omega)]
    rw [if_pos (by omega), if_pos rfl, if_pos (r1.2.2 (by omega)).2, if_pos hat, if_pos r5.2.2, if_pos hone, if_pos hlen, if_pos r3, last]
  have hr := r1.2.1 (by omega) (by omega)
  have hat : (readR x).2.2.1 = mx (wrap64 ((n : Int) - 1)) 0 := by
    rw [w1, hr.1]; unfold mx; rw [if_neg (by omega)]; omega
  rw [if_neg (by omega)]
  by_cases hqn : q = n
  · have h6 : (readR x).2.2.2 = 63 := by rw [hr.2, if_pos (by omega)]
    rw [if_pos (by omega), if_pos rfl, if_pos h6, if_pos hat, if_pos r5.2.2, if_pos hone, if_pos hlen, if_pos r3, last]
  · have h6 : (readR x).2.2.2 = 60 := by rw [hr.2, if_neg (by omega)]
    rw [if_neg (by omega), if_pos rfl, if_pos h6, if_pos hat, if_pos r5.2.2, if_pos hone, if_pos hlen, if_pos r3, last]

theorem ReadDeep : RD6.Pure := by
  intro a0 a1 h0 h1
  have b0 : 0 ≤ a0 ∧ a0 ≤ 255 := Go.bounds_u8 h0
  have b1 : 0 ≤ a1 ∧ a1 ≤ 255 := Go.bounds_u8 h1
  obtain ⟨n, hn, hn2⟩ : ∃ n : Nat, wrap64 (Int.tmod a0 61) = (n : Int) ∧ n ≤ 60 := by
    refine ⟨(Int.tmod a0 61).toNat, ?_, ?_⟩
    · rw [YthempkdgmobocaaDoorM.wrap_small _ (by rw [Int.tmod_eq_emod_of_nonneg b0.1]; omega) (by rw [Int.tmod_eq_emod_of_nonneg b0.1]; omega), Int.tmod_eq_emod_of_nonneg b0.1]; omega
    · rw [Int.tmod_eq_emod_of_nonneg b0.1]; omega
  have hw : wrap64 ((n : Int) + 1) = ((n + 1 : Nat) : Int) := YthempkdgmobocaaDoorM.wrap_small _ (by omega) (by omega)
  obtain ⟨q, hq, hq2⟩ : ∃ q : Nat, Int.tmod (wrap64 a1) ((n + 1 : Nat) : Int) = (q : Int) ∧ q ≤ n := by
    rw [YthempkdgmobocaaDoorM.wrap_small a1 (by omega) (by omega), Int.tmod_eq_emod_of_nonneg b1.1]
    have h2 := Int.emod_nonneg a1 (show ((n + 1 : Nat) : Int) ≠ 0 by omega)
    have h3 := Int.emod_lt_of_pos a1 (show (0 : Int) < ((n + 1 : Nat) : Int) by omega)
    exact ⟨(a1 % ((n + 1 : Nat) : Int)).toNat, by omega, by omega⟩
  obtain ⟨y, h2, h3, h4⟩ := rdd_l0 n q hq2 hn2 n (0 + (n - q) + 1) 0 (⟨#[]⟩ : ByteArray) (by omega) (by omega) (by decide)
  obtain ⟨z, h5, h6, h7⟩ := rdd_l1 n q y (n - q) (by omega) (n - q) 0 0 (⟨#[]⟩ : ByteArray) (by omega) (by omega) (by decide)
  refine ⟨0 + (n - q) + 1 + n + 1, ?_⟩
  unfold RD6.f
  rw [shown6, Option.bind_some, hn, hw, hq, if_neg (by omega)]
  have e : wrap64 ((n : Int) - (q : Int)) = ((n - q : Nat) : Int) := by
    rw [YthempkdgmobocaaDoorM.wrap_small _ (by omega) (by omega)]; omega
  rw [e] at h4
  have e2 : n - max 0 q = n - q := by omega
  rw [e2, Nat.sub_zero] at h2
  rw [Nat.sub_zero] at h5
  refine h4.trans (h7.trans ?_)
  exact rdd_end n q (n - q) (by omega) hn2 0 y z (by simpa using h2) (by simpa using h5)
end Go.Proofs.YthempkdgmobocaaDoor.Pure
end
