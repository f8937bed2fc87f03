/- Texts of this claim, one behind the other: PureReadPlays, Me, Ra1, Mg. -/
import Derived.Test.YthempkdgmobocaaDoorBg
import Derived.Test.YthempkdgmobocaaDoorBt
import Derived.IntWalk
section
/- ReadPlays, over numbers and lists: the two readers, which both compute the plain law, agree. -/
namespace Go.Proofs.YthempkdgmobocaaDoor.Pure
open Go Go.RowKit Go.Proofs.YthempkdgmobocaaDoorEd Go.Proofs.YthempkdgmobocaaDoorE Go.Proofs.YthempkdgmobocaaDoorX Go.Proofs.YthempkdgmobocaaDoorRd Go.Proofs.YthempkdgmobocaaDoor.L Go.Proofs.YthempkdgmobocaaDoor.N Go.Proofs.YthempkdgmobocaaDoor.T
open Go.Proofs.YthempkdgmobocaaDoorW.PrintWords

theorem shown6 : eddywheellaw06_shown.f = some true := by
  have h : readC.f (⟨#[40, 97, 32, 39, 98, 41]⟩ : ByteArray) = some _ := congrArg some read_1
  unfold eddywheellaw06_shown.f
  rw [h, Option.bind_some, if_pos rfl, if_pos rfl, ints6C_refl _ (by simp), Option.bind_some, if_pos rfl, same6C_refl _ (by simp) (by simp), Option.bind_some]
theorem ReadPlays : eddywheellaw06_ReadPlays.Pure := by
  intro x hx
  unfold eddywheellaw06_ReadPlays.f
  rw [shown6, Option.bind_some]
  by_cases h : (x.size : Int) > 4500
  · rw [if_pos h]
  · rw [if_neg h]
    have hs := readR_sizes x
    unfold readC.f refReadC.f
    rw [Option.bind_some, Option.bind_some, if_pos rfl, same6C_refl _ hs.1 hs.2.2, Option.bind_some, if_pos rfl, ints6C_refl _ hs.2.1, Option.bind_some, if_pos rfl, if_pos rfl, beq_self_eq_true]
end Go.Proofs.YthempkdgmobocaaDoor.Pure
end
section
/- The plain law of the reader: texts one behind the other. -/
namespace Go.Proofs.YthempkdgmobocaaDoorRd
open Go Go.Proofs.YthempkdgmobocaaDoorEd Go.Proofs.YthempkdgmobocaaDoorE Go.Proofs.YthempkdgmobocaaDoorX Go.Proofs.YthempkdgmobocaaDoor.L Go.Proofs.YthempkdgmobocaaDoor.N Go.Proofs.YthempkdgmobocaaDoorM
open Go.Proofs.YthempkdgmobocaaDoorW.PrintWords

theorem run_err (ts : List S30) : ∀ (s : St) (p e : Int), run s ts = .error (p, e) → e ≠ 0 := by
  induction ts with
  | nil => intro s p e h; cases h
  | cons t ts ih =>
    intro s p e h
    simp only [run] at h
    split at h
    · exact ih _ _ _ h
    · cases h; assumption
theorem toS_shT (k : Int) (t : Tok) : toS (mv k t) = shT k (toS t) := rfl
theorem map_shT (k : Int) (l : List Tok) : (l.map (mv k)).map toS = (l.map toS).map (shT k) := by
  rw [List.map_map, List.map_map]; rfl
theorem lastK_append (a b : List S30) (k : Int) (h : b ≠ []) : lastK (a ++ b.map (shT k)) = lastK b := by
  unfold lastK
  rw [List.getLast?_append, List.getLast?_map]
  cases hb : b.getLast? with
  | none => exact absurd (List.getLast?_eq_none_iff.1 hb) h
  | some t => rfl
/-- what is read behind what was read whole. -/
theorem readT_join (a b : List S30) (A : List S46) (X : List Int) (k : Int) (ha : run ⟨[], [], []⟩ a = .ok ⟨A, X, []⟩) :
    readT (a ++ b.map (shT k)) = if (readT b).2.2.2 = 0 then (A ++ (readT b).1.map (shN A.length k), X ++ (readT b).2.1.map (· + (A.length : Int)), 0, 0) else ([], [], (readT b).2.2.1 + k, (readT b).2.2.2) := by
  have h1 : run ⟨[], [], []⟩ (a ++ b.map (shT k)) = (match run ⟨[], [], []⟩ b with | .error (p, e) => .error (p + k, e) | .ok s' => .ok (shS A X k s')) := by
    rw [run_append, ha]
    have := run_sh A X k b ⟨[], [], []⟩
    have e : shS A X k ⟨[], [], []⟩ = ⟨A, X, []⟩ := by simp [shS]
    rw [e] at this
    exact this
  unfold readT
  rw [h1]
  cases hb : run ⟨[], [], []⟩ b with
  | error z =>
    obtain ⟨p, e⟩ := z
    have e2 : fin2 b (.error (p, e)) = ([], [], p, e) := rfl
    have he : ¬ (([], [], p, e) : List S46 × List Int × Int × Int).2.2.2 = 0 := run_err _ _ _ _ hb
    rw [e2, if_neg he]
    rfl
  | ok s =>
    obtain ⟨row, tops, ops⟩ := s
    cases ops with
    | nil =>
      have e2 : fin2 b (.ok ⟨row, tops, []⟩) = (row, tops, 0, 0) := rfl
      rw [e2, if_pos rfl]
      rfl
    | cons o os =>
      have hb' : b ≠ [] := by rintro rfl; cases hb
      have e2 : fin2 b (.ok ⟨row, tops, o :: os⟩) = ([], [], o.p, if lastK b = 3 then 63 else 60) := rfl
      have he : ¬ (([], [], o.p, if lastK b = 3 then (63 : Int) else 60) : List S46 × List Int × Int × Int).2.2.2 = 0 := by
        show ¬ (if lastK b = 3 then (63 : Int) else 60) = 0
        split <;> decide
      rw [e2, if_neg he]
      show (([], [], (shO A.length k o).p, if lastK (a ++ b.map (shT k)) = 3 then (63 : Int) else 60) : List S46 × List Int × Int × Int) = _
      rw [lastK_append a b k hb']
      rfl
theorem lexR_ok (x : ByteArray) (hx : x.size ≤ 4000) : lexR x = fin [] (lexA x.data.toList 0) := by
  unfold lexR; rw [if_neg (by omega)]
theorem readR_split (x : ByteArray) (hx : x.size ≤ 4000) : (∃ q e, lexA x.data.toList 0 = .error (q, e) ∧ e ≠ 0 ∧ 0 ≤ q ∧ q ≤ x.size ∧ readR x = ([], [], q, e)) ∨ (∃ l, lexA x.data.toList 0 = .ok l ∧ readR x = readT (l.map toS)) := by
  unfold readR
  rw [lexR_ok x hx]
  cases h : lexA x.data.toList 0 with
  | error z =>
    obtain ⟨q, e⟩ := z
    have he := lexA_err _ _ _ _ h
    refine .inl ⟨q, e, rfl, he.1, he.2.1, by have := he.2.2; simpa using this, ?_⟩
    simp [fin, he.1]
  | ok l => exact .inr ⟨l, rfl, by rw [fin_ok]; rfl⟩
theorem readR_ok (x : ByteArray) (hx : x.size ≤ 4000) (l : List Tok) (h : lexA x.data.toList 0 = .ok l) : readR x = readT (l.map toS) := by
  have e : lexR x = (l.map toS, 0, 0) := by rw [lexR_ok x hx, h, fin_ok]
  unfold readR
  rw [e]
  rfl
theorem readT_zero (ts : List S30) (h : (readT ts).2.2.2 = 0) : ∃ A X, run ⟨[], [], []⟩ ts = .ok ⟨A, X, []⟩ ∧ readT ts = (A, X, 0, 0) := by
  unfold readT at h ⊢
  cases hr : run ⟨[], [], []⟩ ts with
  | error z =>
    obtain ⟨p, e⟩ := z
    rw [hr] at h
    exact absurd h (run_err _ _ _ _ hr)
  | ok s =>
    rw [hr] at h
    obtain ⟨A, X, ops⟩ := s
    cases ops with
    | nil => exact ⟨A, X, rfl, rfl⟩
    | cons o os =>
      simp only [fin2] at h
      exact absurd h (by split <;> decide)
/-- a text behind another. -/
theorem readR_join (x y z : ByteArray) (hx : x.size ≤ 1000) (hy : y.size ≤ 1000) (hz : z.data.toList = x.data.toList ++ 10 :: y.data.toList) (h0 : (readR x).2.2.2 = 0) :
    readR z = if (readR y).2.2.2 = 0 then ((readR x).1 ++ (readR y).1.map (shN (readR x).1.length (x.size + 1)), (readR x).2.1 ++ (readR y).2.1.map (· + ((readR x).1.length : Int)), 0, 0) else ([], [], (readR y).2.2.1 + (x.size + 1), (readR y).2.2.2) := by
  have lx : x.data.toList.length = x.size := by simp
  have ly : y.data.toList.length = y.size := by simp
  have lz : z.size = x.size + 1 + y.size := by
    have := congrArg List.length hz
    simp at this
    omega
  have hl : lexA z.data.toList 0 = then_ (lexA x.data.toList 0) (YthempkdgmobocaaDoorEd.move (x.size + 1) (lexA y.data.toList 0)) := by
    rw [hz, lexA_join, ← lexA_move, lx]
    congr 2
  rcases readR_split x (by omega) with ⟨q, e, _, he, _, _, h1⟩ | ⟨la, h1, h2⟩
  · rw [h1] at h0; exact absurd h0 he
  rw [h2] at h0
  obtain ⟨A, X, hr, h3⟩ := readT_zero _ h0
  rw [h1] at hl
  rcases readR_split y (by omega) with ⟨q, e, h4, he, hq0, hq1, h5⟩ | ⟨lb, h4, h5⟩
  · rw [h4] at hl
    have : readR z = ([], [], q + (x.size + 1), e) := by
      unfold readR
      rw [lexR_ok z (by omega), hl]
      simp [then_, YthempkdgmobocaaDoorEd.move, fin, he]
    rw [this, h5]
    rw [if_neg he]
  · rw [h4] at hl
    have : readR z = readT (la.map toS ++ (lb.map toS).map (shT (x.size + 1))) := by
      rw [← map_shT, ← List.map_append]
      exact readR_ok z (by omega) _ hl
    rw [this, readT_join _ _ A X _ hr, h5, h2, h3]
end Go.Proofs.YthempkdgmobocaaDoorRd
end
section
/- ReadAt, walked: each datum begins in the text where it says. -/
namespace Go.Proofs.YthempkdgmobocaaDoorRd
open Go Go.RowKit Go.Proofs.YthempkdgmobocaaDoorX Go.Proofs.YthempkdgmobocaaDoorE Go.Proofs.YthempkdgmobocaaDoor.L Go.Proofs.YthempkdgmobocaaDoor.N Go.Proofs.YthempkdgmobocaaDoor.T
open Go.Proofs.YthempkdgmobocaaDoorW.PrintWords Go.Proofs.YthempkdgmobocaaDoorW.PrintLast Go.Proofs.YthempkdgmobocaaDoorW.PrintMore
attribute [local go_sem] cell_again map_some'
set_option linter.unusedVariables false
set_option linter.unusedSimpArgs false
/-- where a datum begins. -/
def PAt (a0 : ByteArray) (x : S46) : Prop :=
  (0 ≤ x.f1 ∧ x.f1 < (a0.size : Int)) ∧ ((x.f0 = 1 ∧ (bt a0 x.f1 = 45 ∨ (48 ≤ bt a0 x.f1 ∧ bt a0 x.f1 ≤ 57))) ∨ (x.f0 = 2 ∧ bt a0 x.f1 = 35) ∨ (x.f0 = 3 ∧ bt a0 x.f1 = 39 ∧ x.f3 = (⟨#[113, 117, 111, 116, 101]⟩ : ByteArray))
    ∨ (x.f0 = 3 ∧ bt a0 x.f1 ≠ 39 ∧ x.f1 + (x.f3.size : Int) ≤ (a0.size : Int) ∧ a0.extract x.f1.toNat (x.f1 + (x.f3.size : Int)).toNat = x.f3) ∨ (x.f0 = 4 ∧ (bt a0 x.f1 = 40 ∨ bt a0 x.f1 = 39)))
set_option maxHeartbeats 8000000 in
set_option maxRecDepth 100000 in
theorem readAt_walk (a0 : ByteArray) (w : World) (hG : GoodW w) (ha : (a0.size : Int) ≤ 1000 → ∀ r1 r2 r3 r4, readC.f a0 = some (r1, r2, r3, r4) → r1.length ≤ 1000000 ∧ (r4 = 0 → ∀ x ∈ r1, PAt a0 x)) :
    Calls Tryd.prog 13 #[.string a0] w fun e w' => e = .returned (.bool true) ∧ Below w.heap.size w w' := by
  have HG := Aside0.mk hG
  clear hG
  have HB := Aside0.mk (Below.refl w.heap.size w)
  have A2 := Aside0.mk Go.Proofs.YthempkdgmobocaaDoor.Pure.shown6
  by_cases c3 : (a0.size : Int) > 1000
  · have c3b0 : decide (1000 < (a0.size : Int)) = true := decide_eq_true c3
    have c3b1 : decide (1000 < a0.size) = true := decide_eq_true (by omega)
    clear c3 ha
    go_enter Tryd.func13, Tryd.ntmps13
    go_wp2_with (first | (go_at_call 21; (with_reducible refine (eddywheellaw06_shown.calls  true _ ?side1 A2.out).mono ?_); (case side1 => exact GoodW.below HG.out (by repeat (first | (with_reducible first | exact HB.out | apply below_alloc | apply pw_below_drewN | apply below_drew1) | exact HB.out))); rintro e w5 ⟨rfl, hb⟩; have n0_ := Aside0.mk (below_step (by repeat (first | (with_reducible first | exact HB.out | apply below_alloc | apply pw_below_drewN | apply below_drew1) | exact HB.out)) hb); clear HB; have HB := n0_; clear n0_ hb))
    go_ret
    exact ⟨rfl, by repeat (first | (with_reducible first | exact HB.out | apply below_alloc | apply pw_below_drewN | apply below_drew1) | exact HB.out)⟩
  · have c3b0 : decide (1000 < (a0.size : Int)) = false := decide_eq_false c3
    have c3b1 : decide (1000 < a0.size) = false := decide_eq_false (by omega)
    obtain ⟨r1, r2, r3, r4, hr⟩ : ∃ r1 r2 r3 r4, readC.f a0 = some (r1, r2, r3, r4) := ⟨_, _, _, _, rfl⟩
    obtain ⟨hlen, hP⟩ := ha (by omega) _ _ _ _ hr
    have A5 := Aside0.mk hr
    have hsz : (a0.size : Int) ≤ 1000 := by omega
    clear c3 ha hr
    by_cases c7 : r4 = 0
    · subst c7
      have HP := Aside0.mk (hP rfl)
      clear hP
      go_enter Tryd.func13, Tryd.ntmps13
      go_wp2_with (first | (go_at_call 21; (with_reducible refine (eddywheellaw06_shown.calls  true _ ?side1 A2.out).mono ?_); (case side1 => exact GoodW.below HG.out (by repeat (first | (with_reducible first | exact HB.out | apply below_alloc | apply pw_below_drewN | apply below_drew1) | exact HB.out))); rintro e w5 ⟨rfl, hb⟩; have n0_ := Aside0.mk (below_step (by repeat (first | (with_reducible first | exact HB.out | apply below_alloc | apply pw_below_drewN | apply below_drew1) | exact HB.out)) hb); clear HB; have HB := n0_; clear n0_ hb) | (go_at_call 22; (with_reducible refine (readC.calls a0 r1 r2 r3 0 _ ?side1 A5.out).mono ?_); (case side1 => exact GoodW.below HG.out (by repeat (first | (with_reducible first | exact HB.out | apply below_alloc | apply pw_below_drewN | apply below_drew1) | exact HB.out))); rintro e w6 ⟨v1, v2, rfl, ho0, ho1, hb⟩; have n0_ := Aside0.mk (below_step (by repeat (first | (with_reducible first | exact HB.out | apply below_alloc | apply pw_below_drewN | apply below_drew1) | exact HB.out)) hb); clear HB; have HB := n0_; clear n0_ hb; obtain ⟨A0, c0, e0⟩ := Kd.R_slice ho0; subst e0; have HO := Aside0.mk (Kd.R_reads' ho0); clear ho0 ho1))
      -- the loop
      go_loopw [28] (fun i wr => ∃ xi : Int, 0 ≤ xi ∧ xi ≤ (r1.length : Int) ∧ i = .int .i64 xi ∧ Below w6.heap.size w6 wr) (fun i _ => (r1.length - (intOf i).toNat))
      case atStart => exact ⟨0, by omega, by omega, rfl, Below.refl _ _⟩
      case round =>
        obtain ⟨xi, hx0, hx1, rfl, hb⟩ := hrel
        have HBw := Aside0.mk hb
        have HR := Aside0.mk (Below.refl wr.heap.size wr)
        by_cases hlt : xi < (r1.length : Int)
        · obtain ⟨ad, A4, c4, e, a0_, a1_, a2_, a3_, a4_, hl4, hC4⟩ := at_T46 (Kd.C_below HO.out.2.2 hb) xi hx0 hlt
          cases e
          have hmem : rd_T46 r1 xi ∈ r1 := by
            obtain ⟨i, rfl⟩ := Int.eq_ofNat_of_zero_le hx0
            have hi : i < r1.length := by omega
            rw [show rd_T46 r1 (i : Int) = r1[i] by simp [rd_T46, List.getD_eq_getElem?_getD, hi]]
            exact List.getElem_mem _
          have hp := HP.out _ hmem
          generalize rd_T46 r1 xi = t at a0_ a1_ a2_ a3_ a4_ hl4 hC4 hmem hp
          obtain ⟨f0, f1, f2, f3, f4⟩ := t
          unfold PAt at hp
          dsimp only at a0_ a1_ a2_ a3_ a4_ hl4 hC4 hp
          obtain ⟨⟨p0, p1⟩, hk⟩ := hp
          have hlt2 : decide (xi < (r1.length : Int)) = true := decide_eq_true hlt
          have pf0 : decide (f1 < 0) = false := decide_eq_false (by omega)
          have pf1 : decide ((a0.size : Int) ≤ f1) = false := decide_eq_false (by omega)
          have pf2 : (f1 < 0) = False := eq_false (by omega)
          have hx5 := bt_at a0 f1
          replace p0 := eq_true p0
          replace p1 := eq_true p1
          clear hmem hC4 hb hl4
          rcases hk with ⟨rfl, hc | ⟨hc, hd⟩⟩ | ⟨rfl, hc⟩ | ⟨rfl, hc, rfl⟩ | ⟨rfl, hc, hd, he⟩ | ⟨rfl, hc | hc⟩
          · go_wp2_with (first | ((with_reducible refine gate_dst (N := 9) rfl ?_); (try (refine gate_guard (by rfl) ?_; dsimp only)); refine box_event ?hg (N := 9) ?hd (cs := #[.int .u8 0, .int .i64 0, .int .i64 0, .string (⟨#[]⟩ : ByteArray), .slice none 0 0]) (t := 46) ?hr ?_; (case hd => rfl); (case hg => rfl); (case hr => first | (go_simp; done) | (go_simp; rfl)); intro gb hg w7 hbox hb7; have n0_ := Aside0.mk (below_step (by repeat (first | (with_reducible first | exact HR.out | apply below_alloc | apply pw_below_drewN | apply below_drew1) | exact HR.out)) hb7); have n1_ := Aside0.mk ((by rw [hg]; exact (below_size (by repeat (first | (with_reducible first | exact HR.out | apply below_alloc | apply pw_below_drewN | apply below_drew1) | exact HR.out)))) : wr.heap.size ≤ gb); clear HR; have HR := n0_; have HGB := n1_; clear n0_ n1_; have z0 : w7.cell? ⟨gb, 0, none⟩ = some (.int .u8 0) := (blk_cell hbox 0).trans rfl; have z1 : w7.cell? ⟨gb, 1, none⟩ = some (.int .i64 0) := (blk_cell hbox 1).trans rfl; have z2 : w7.cell? ⟨gb, 2, none⟩ = some (.int .i64 0) := (blk_cell hbox 2).trans rfl; have z3 : w7.cell? ⟨gb, 3, none⟩ = some (.string (⟨#[]⟩ : ByteArray)) := (blk_cell hbox 3).trans rfl; have z4 : w7.cell? ⟨gb, 4, none⟩ = some (.slice none 0 0) := (blk_cell hbox 4).trans rfl; have y0 := blk_frozen hbox 0; have y1 := blk_frozen hbox 1; have y2 := blk_frozen hbox 2; have y3 := blk_frozen hbox 3; have y4 := blk_frozen hbox 4; clear hbox hg hb7))
            repeat (go_quiet (fail); try go_wp2)
            go_roundw
            case rel => exact ⟨xi + 1, by omega, by omega, rfl, below_step HBw.out (by repeat (first | (with_reducible first | exact HR.out | apply below_alloc | apply pw_below_drewN | apply below_drew1 | refine below_set ?_ HGB.out) | exact HR.out))⟩
            case measure => simp [intOf]; omega
          · have m0 : decide (bt a0 f1 < 48) = false := decide_eq_false (by omega)
            have m1 : decide (57 < bt a0 f1) = false := decide_eq_false (by omega)
            have m2 : (bt a0 f1 != 45) = true := bne_iff_ne.mpr (by omega)
            clear hc hd
            go_wp2_with (first | ((with_reducible refine gate_dst (N := 9) rfl ?_); (try (refine gate_guard (by rfl) ?_; dsimp only)); refine box_event ?hg (N := 9) ?hd (cs := #[.int .u8 0, .int .i64 0, .int .i64 0, .string (⟨#[]⟩ : ByteArray), .slice none 0 0]) (t := 46) ?hr ?_; (case hd => rfl); (case hg => rfl); (case hr => first | (go_simp; done) | (go_simp; rfl)); intro gb hg w7 hbox hb7; have n0_ := Aside0.mk (below_step (by repeat (first | (with_reducible first | exact HR.out | apply below_alloc | apply pw_below_drewN | apply below_drew1) | exact HR.out)) hb7); have n1_ := Aside0.mk ((by rw [hg]; exact (below_size (by repeat (first | (with_reducible first | exact HR.out | apply below_alloc | apply pw_below_drewN | apply below_drew1) | exact HR.out)))) : wr.heap.size ≤ gb); clear HR; have HR := n0_; have HGB := n1_; clear n0_ n1_; have z0 : w7.cell? ⟨gb, 0, none⟩ = some (.int .u8 0) := (blk_cell hbox 0).trans rfl; have z1 : w7.cell? ⟨gb, 1, none⟩ = some (.int .i64 0) := (blk_cell hbox 1).trans rfl; have z2 : w7.cell? ⟨gb, 2, none⟩ = some (.int .i64 0) := (blk_cell hbox 2).trans rfl; have z3 : w7.cell? ⟨gb, 3, none⟩ = some (.string (⟨#[]⟩ : ByteArray)) := (blk_cell hbox 3).trans rfl; have z4 : w7.cell? ⟨gb, 4, none⟩ = some (.slice none 0 0) := (blk_cell hbox 4).trans rfl; have y0 := blk_frozen hbox 0; have y1 := blk_frozen hbox 1; have y2 := blk_frozen hbox 2; have y3 := blk_frozen hbox 3; have y4 := blk_frozen hbox 4; clear hbox hg hb7))
            repeat (go_quiet (fail); try go_wp2)
            go_roundw
            case rel => exact ⟨xi + 1, by omega, by omega, rfl, below_step HBw.out (by repeat (first | (with_reducible first | exact HR.out | apply below_alloc | apply pw_below_drewN | apply below_drew1 | refine below_set ?_ HGB.out) | exact HR.out))⟩
            case measure => simp [intOf]; omega
          · go_wp2_with (first | ((with_reducible refine gate_dst (N := 9) rfl ?_); (try (refine gate_guard (by rfl) ?_; dsimp only)); refine box_event ?hg (N := 9) ?hd (cs := #[.int .u8 0, .int .i64 0, .int .i64 0, .string (⟨#[]⟩ : ByteArray), .slice none 0 0]) (t := 46) ?hr ?_; (case hd => rfl); (case hg => rfl); (case hr => first | (go_simp; done) | (go_simp; rfl)); intro gb hg w7 hbox hb7; have n0_ := Aside0.mk (below_step (by repeat (first | (with_reducible first | exact HR.out | apply below_alloc | apply pw_below_drewN | apply below_drew1) | exact HR.out)) hb7); have n1_ := Aside0.mk ((by rw [hg]; exact (below_size (by repeat (first | (with_reducible first | exact HR.out | apply below_alloc | apply pw_below_drewN | apply below_drew1) | exact HR.out)))) : wr.heap.size ≤ gb); clear HR; have HR := n0_; have HGB := n1_; clear n0_ n1_; have z0 : w7.cell? ⟨gb, 0, none⟩ = some (.int .u8 0) := (blk_cell hbox 0).trans rfl; have z1 : w7.cell? ⟨gb, 1, none⟩ = some (.int .i64 0) := (blk_cell hbox 1).trans rfl; have z2 : w7.cell? ⟨gb, 2, none⟩ = some (.int .i64 0) := (blk_cell hbox 2).trans rfl; have z3 : w7.cell? ⟨gb, 3, none⟩ = some (.string (⟨#[]⟩ : ByteArray)) := (blk_cell hbox 3).trans rfl; have z4 : w7.cell? ⟨gb, 4, none⟩ = some (.slice none 0 0) := (blk_cell hbox 4).trans rfl; have y0 := blk_frozen hbox 0; have y1 := blk_frozen hbox 1; have y2 := blk_frozen hbox 2; have y3 := blk_frozen hbox 3; have y4 := blk_frozen hbox 4; clear hbox hg hb7))
            repeat (go_quiet (fail); try go_wp2)
            go_roundw
            case rel => exact ⟨xi + 1, by omega, by omega, rfl, below_step HBw.out (by repeat (first | (with_reducible first | exact HR.out | apply below_alloc | apply pw_below_drewN | apply below_drew1 | refine below_set ?_ HGB.out) | exact HR.out))⟩
            case measure => simp [intOf]; omega
          · go_wp2_with (first | ((with_reducible refine gate_dst (N := 9) rfl ?_); (try (refine gate_guard (by rfl) ?_; dsimp only)); refine box_event ?hg (N := 9) ?hd (cs := #[.int .u8 0, .int .i64 0, .int .i64 0, .string (⟨#[]⟩ : ByteArray), .slice none 0 0]) (t := 46) ?hr ?_; (case hd => rfl); (case hg => rfl); (case hr => first | (go_simp; done) | (go_simp; rfl)); intro gb hg w7 hbox hb7; have n0_ := Aside0.mk (below_step (by repeat (first | (with_reducible first | exact HR.out | apply below_alloc | apply pw_below_drewN | apply below_drew1) | exact HR.out)) hb7); have n1_ := Aside0.mk ((by rw [hg]; exact (below_size (by repeat (first | (with_reducible first | exact HR.out | apply below_alloc | apply pw_below_drewN | apply below_drew1) | exact HR.out)))) : wr.heap.size ≤ gb); clear HR; have HR := n0_; have HGB := n1_; clear n0_ n1_; have z0 : w7.cell? ⟨gb, 0, none⟩ = some (.int .u8 0) := (blk_cell hbox 0).trans rfl; have z1 : w7.cell? ⟨gb, 1, none⟩ = some (.int .i64 0) := (blk_cell hbox 1).trans rfl; have z2 : w7.cell? ⟨gb, 2, none⟩ = some (.int .i64 0) := (blk_cell hbox 2).trans rfl; have z3 : w7.cell? ⟨gb, 3, none⟩ = some (.string (⟨#[]⟩ : ByteArray)) := (blk_cell hbox 3).trans rfl; have z4 : w7.cell? ⟨gb, 4, none⟩ = some (.slice none 0 0) := (blk_cell hbox 4).trans rfl; have y0 := blk_frozen hbox 0; have y1 := blk_frozen hbox 1; have y2 := blk_frozen hbox 2; have y3 := blk_frozen hbox 3; have y4 := blk_frozen hbox 4; clear hbox hg hb7))
            repeat (go_quiet (fail); try go_wp2)
            go_roundw
            case rel => exact ⟨xi + 1, by omega, by omega, rfl, below_step HBw.out (by repeat (first | (with_reducible first | exact HR.out | apply below_alloc | apply pw_below_drewN | apply below_drew1 | refine below_set ?_ HGB.out) | exact HR.out))⟩
            case measure => simp [intOf]; omega
          · have m0 : (bt a0 f1 == 39) = false := beq_eq_false_iff_ne.mpr hc
            have hf : 0 ≤ (f3.size : Int) := by omega
            have p0' := of_eq_true p0
            have m1 : wrap64 (f1 + (f3.size : Int)) = f1 + (f3.size : Int) := by unfold wrap64; omega
            have m2 : decide ((a0.size : Int) < f1 + (f3.size : Int)) = false := decide_eq_false (by omega)
            have m3 : f1 ≤ f1 + (f3.size : Int) := by omega
            have m4 : 0 ≤ f1 + (f3.size : Int) := by omega
            clear hc p0'
            go_wp2_with (first | ((with_reducible refine gate_dst (N := 9) rfl ?_); (try (refine gate_guard (by rfl) ?_; dsimp only)); refine box_event ?hg (N := 9) ?hd (cs := #[.int .u8 0, .int .i64 0, .int .i64 0, .string (⟨#[]⟩ : ByteArray), .slice none 0 0]) (t := 46) ?hr ?_; (case hd => rfl); (case hg => rfl); (case hr => first | (go_simp; done) | (go_simp; rfl)); intro gb hg w7 hbox hb7; have n0_ := Aside0.mk (below_step (by repeat (first | (with_reducible first | exact HR.out | apply below_alloc | apply pw_below_drewN | apply below_drew1) | exact HR.out)) hb7); have n1_ := Aside0.mk ((by rw [hg]; exact (below_size (by repeat (first | (with_reducible first | exact HR.out | apply below_alloc | apply pw_below_drewN | apply below_drew1) | exact HR.out)))) : wr.heap.size ≤ gb); clear HR; have HR := n0_; have HGB := n1_; clear n0_ n1_; have z0 : w7.cell? ⟨gb, 0, none⟩ = some (.int .u8 0) := (blk_cell hbox 0).trans rfl; have z1 : w7.cell? ⟨gb, 1, none⟩ = some (.int .i64 0) := (blk_cell hbox 1).trans rfl; have z2 : w7.cell? ⟨gb, 2, none⟩ = some (.int .i64 0) := (blk_cell hbox 2).trans rfl; have z3 : w7.cell? ⟨gb, 3, none⟩ = some (.string (⟨#[]⟩ : ByteArray)) := (blk_cell hbox 3).trans rfl; have z4 : w7.cell? ⟨gb, 4, none⟩ = some (.slice none 0 0) := (blk_cell hbox 4).trans rfl; have y0 := blk_frozen hbox 0; have y1 := blk_frozen hbox 1; have y2 := blk_frozen hbox 2; have y3 := blk_frozen hbox 3; have y4 := blk_frozen hbox 4; clear hbox hg hb7))
            repeat (go_quiet (fail); try go_wp2)
            go_roundw
            case rel => exact ⟨xi + 1, by omega, by omega, rfl, below_step HBw.out (by repeat (first | (with_reducible first | exact HR.out | apply below_alloc | apply pw_below_drewN | apply below_drew1 | refine below_set ?_ HGB.out) | exact HR.out))⟩
            case measure => simp [intOf]; omega
          · go_wp2_with (first | ((with_reducible refine gate_dst (N := 9) rfl ?_); (try (refine gate_guard (by rfl) ?_; dsimp only)); refine box_event ?hg (N := 9) ?hd (cs := #[.int .u8 0, .int .i64 0, .int .i64 0, .string (⟨#[]⟩ : ByteArray), .slice none 0 0]) (t := 46) ?hr ?_; (case hd => rfl); (case hg => rfl); (case hr => first | (go_simp; done) | (go_simp; rfl)); intro gb hg w7 hbox hb7; have n0_ := Aside0.mk (below_step (by repeat (first | (with_reducible first | exact HR.out | apply below_alloc | apply pw_below_drewN | apply below_drew1) | exact HR.out)) hb7); have n1_ := Aside0.mk ((by rw [hg]; exact (below_size (by repeat (first | (with_reducible first | exact HR.out | apply below_alloc | apply pw_below_drewN | apply below_drew1) | exact HR.out)))) : wr.heap.size ≤ gb); clear HR; have HR := n0_; have HGB := n1_; clear n0_ n1_; have z0 : w7.cell? ⟨gb, 0, none⟩ = some (.int .u8 0) := (blk_cell hbox 0).trans rfl; have z1 : w7.cell? ⟨gb, 1, none⟩ = some (.int .i64 0) := (blk_cell hbox 1).trans rfl; have z2 : w7.cell? ⟨gb, 2, none⟩ = some (.int .i64 0) := (blk_cell hbox 2).trans rfl; have z3 : w7.cell? ⟨gb, 3, none⟩ = some (.string (⟨#[]⟩ : ByteArray)) := (blk_cell hbox 3).trans rfl; have z4 : w7.cell? ⟨gb, 4, none⟩ = some (.slice none 0 0) := (blk_cell hbox 4).trans rfl; have y0 := blk_frozen hbox 0; have y1 := blk_frozen hbox 1; have y2 := blk_frozen hbox 2; have y3 := blk_frozen hbox 3; have y4 := blk_frozen hbox 4; clear hbox hg hb7))
            repeat (go_quiet (fail); try go_wp2)
            go_roundw
            case rel => exact ⟨xi + 1, by omega, by omega, rfl, below_step HBw.out (by repeat (first | (with_reducible first | exact HR.out | apply below_alloc | apply pw_below_drewN | apply below_drew1 | refine below_set ?_ HGB.out) | exact HR.out))⟩
            case measure => simp [intOf]; omega
          · go_wp2_with (first | ((with_reducible refine gate_dst (N := 9) rfl ?_); (try (refine gate_guard (by rfl) ?_; dsimp only)); refine box_event ?hg (N := 9) ?hd (cs := #[.int .u8 0, .int .i64 0, .int .i64 0, .string (⟨#[]⟩ : ByteArray), .slice none 0 0]) (t := 46) ?hr ?_; (case hd => rfl); (case hg => rfl); (case hr => first | (go_simp; done) | (go_simp; rfl)); intro gb hg w7 hbox hb7; have n0_ := Aside0.mk (below_step (by repeat (first | (with_reducible first | exact HR.out | apply below_alloc | apply pw_below_drewN | apply below_drew1) | exact HR.out)) hb7); have n1_ := Aside0.mk ((by rw [hg]; exact (below_size (by repeat (first | (with_reducible first | exact HR.out | apply below_alloc | apply pw_below_drewN | apply below_drew1) | exact HR.out)))) : wr.heap.size ≤ gb); clear HR; have HR := n0_; have HGB := n1_; clear n0_ n1_; have z0 : w7.cell? ⟨gb, 0, none⟩ = some (.int .u8 0) := (blk_cell hbox 0).trans rfl; have z1 : w7.cell? ⟨gb, 1, none⟩ = some (.int .i64 0) := (blk_cell hbox 1).trans rfl; have z2 : w7.cell? ⟨gb, 2, none⟩ = some (.int .i64 0) := (blk_cell hbox 2).trans rfl; have z3 : w7.cell? ⟨gb, 3, none⟩ = some (.string (⟨#[]⟩ : ByteArray)) := (blk_cell hbox 3).trans rfl; have z4 : w7.cell? ⟨gb, 4, none⟩ = some (.slice none 0 0) := (blk_cell hbox 4).trans rfl; have y0 := blk_frozen hbox 0; have y1 := blk_frozen hbox 1; have y2 := blk_frozen hbox 2; have y3 := blk_frozen hbox 3; have y4 := blk_frozen hbox 4; clear hbox hg hb7))
            repeat (go_quiet (fail); try go_wp2)
            go_roundw
            case rel => exact ⟨xi + 1, by omega, by omega, rfl, below_step HBw.out (by repeat (first | (with_reducible first | exact HR.out | apply below_alloc | apply pw_below_drewN | apply below_drew1 | refine below_set ?_ HGB.out) | exact HR.out))⟩
            case measure => simp [intOf]; omega
        · have hlt2 : decide (xi < (r1.length : Int)) = false := decide_eq_false hlt
          clear hb
          go_wp2
          go_ret
          exact ⟨rfl, below_step HB.out HBw.out⟩
    · have c7b0 : (r4 != 0) = true := bne_iff_ne.mpr c7
      have c7b1 : (r4 == 0) = false := beq_eq_false_iff_ne.mpr c7
      clear c7 hP
      go_enter Tryd.func13, Tryd.ntmps13
      go_wp2_with (first | (go_at_call 21; (with_reducible refine (eddywheellaw06_shown.calls  true _ ?side1 A2.out).mono ?_); (case side1 => exact GoodW.below HG.out (by repeat (first | (with_reducible first | exact HB.out | apply below_alloc | apply pw_below_drewN | apply below_drew1) | exact HB.out))); rintro e w5 ⟨rfl, hb⟩; have n0_ := Aside0.mk (below_step (by repeat (first | (with_reducible first | exact HB.out | apply below_alloc | apply pw_below_drewN | apply below_drew1) | exact HB.out)) hb); clear HB; have HB := n0_; clear n0_ hb) | (go_at_call 22; (with_reducible refine (readC.calls a0 r1 r2 r3 r4 _ ?side1 A5.out).mono ?_); (case side1 => exact GoodW.below HG.out (by repeat (first | (with_reducible first | exact HB.out | apply below_alloc | apply pw_below_drewN | apply below_drew1) | exact HB.out))); rintro e w6 ⟨v1, v2, rfl, ho0, ho1, hb⟩; have n0_ := Aside0.mk (below_step (by repeat (first | (with_reducible first | exact HB.out | apply below_alloc | apply pw_below_drewN | apply below_drew1) | exact HB.out)) hb); clear HB; have HB := n0_; clear n0_ hb ho0 ho1))
      go_ret
      exact ⟨rfl, by repeat (first | (with_reducible first | exact HB.out | apply below_alloc | apply pw_below_drewN | apply below_drew1) | exact HB.out)⟩
end Go.Proofs.YthempkdgmobocaaDoorRd
end
section
/- The plain law of the reader: where each datum begins. -/
namespace Go.Proofs.YthempkdgmobocaaDoorRd
open Go Go.Proofs.YthempkdgmobocaaDoorEd Go.Proofs.YthempkdgmobocaaDoorE Go.Proofs.YthempkdgmobocaaDoorX Go.Proofs.YthempkdgmobocaaDoor.L Go.Proofs.YthempkdgmobocaaDoor.N Go.Proofs.YthempkdgmobocaaDoorM
open Go.Proofs.YthempkdgmobocaaDoorW.PrintWords

theorem bt_first (x : ByteArray) (a r : List UInt8) (c : UInt8) (h : x.data.toList = a ++ c :: r) : bt x (a.length : Int) = (c.toNat : Int) := by
  have hl := congrArg List.length h
  simp at hl
  have hs : a.length < x.size := by
    have : x.data.size = x.size := rfl
    omega
  unfold bt
  simp only [Int.toNat_natCast]
  rw [dif_pos hs]
  have : x[a.length] = c := by
    show x.data[a.length] = c
    rw [← Array.getElem_toList]
    simp [h]
  rw [this]
theorem tok_at (x : ByteArray) (u : Tok) (h : Stands x.data.toList 0 u) : TokIs (fun k p n s => PAt x ⟨k, p, n, s, []⟩) (fun p q => (0 ≤ p ∧ p < (x.size : Int)) ∧ (q = true → bt x p = 39) ∧ (q = false → bt x p = 40)) (toS u) := by
  obtain ⟨hg, a, w, b, hs, hp, hw, hk⟩ := h
  obtain ⟨c, r, rfl⟩ : ∃ c r, w = c :: r := by
    cases w with
    | nil => exact absurd rfl hw
    | cons c r => exact ⟨c, r, rfl⟩
  have hs2 : x.data.toList = a ++ c :: (r ++ b) := by rw [hs]; simp
  have hb := bt_first x a (r ++ b) c hs2
  have hpos : u.pos = (a.length : Int) := by omega
  rw [← hpos] at hb
  have hl := congrArg List.length hs2
  have hl0 : x.data.toList.length = x.size := by simp
  rw [hl0] at hl
  simp only [List.length_append, List.length_cons] at hl
  have hr : 0 ≤ u.pos ∧ u.pos < (x.size : Int) := by omega
  have e0 : (toS u).f0 = u.kind := rfl
  have e1 : (toS u).f1 = u.pos := rfl
  have e3 : (toS u).f3 = ⟨u.s.toArray⟩ := rfl
  unfold TokIs
  rw [e0, e1, e3]
  have txt : ∀ n : List UInt8, u.kind ≠ 4 → text u = n → c :: r = n := by
    intro n h4 ht
    rcases hk with ⟨h, _⟩ | ⟨_, h⟩
    · exact absurd h h4
    · rw [h, ht]
  refine ⟨fun h => ⟨hr, ?_⟩, fun h => ⟨hr, ?_⟩, fun h => ⟨hr, ?_⟩, fun h => ⟨⟨hr, fun _ => ?_, fun h => by cases h⟩, hr, ?_⟩, fun h2 h3 h4 h5 h6 => ⟨hr, (fun h => by cases h), fun _ => ?_⟩⟩
  · left
    refine ⟨rfl, ?_⟩
    dsimp only
    have hn : isNum (c :: r) = true := by
      rcases hk with ⟨_, h1⟩ | ⟨h1, _⟩
      · exact h1
      · exact absurd h h1
    rw [hb]
    by_cases h45 : c = 45
    · left; rw [h45]; rfl
    · right
      have : isDig c = true := by
        unfold isNum at hn
        split at hn
        · rename_i h1; injection h1 with h1 _; exact absurd h1 h45
        · simp at hn; exact hn.1
      unfold isDig at this
      simp at this
      obtain ⟨h1, h2⟩ := this
      have h1 := UInt8.le_iff_toNat_le.1 h1
      have h2 := UInt8.le_iff_toNat_le.1 h2
      exact ⟨by have : (48 : UInt8).toNat = 48 := rfl
                omega, by have : (57 : UInt8).toNat = 57 := rfl
                          omega⟩
  · right; left
    refine ⟨rfl, ?_⟩
    dsimp only
    have ht : text u = if u.n = 1 then [35, 116] else [35, 102] := by simp [text, h]
    have := txt _ (by omega) ht
    split at this <;> (injection this with h1 _; rw [hb, h1]; rfl)
  · right; right; right; left
    have ht : text u = u.s := by simp [text, h]
    have hcr := txt _ (by omega) ht
    have hgood : u.s.length ≤ 32 ∧ ∀ c ∈ u.s, isLet c = true := by
      rcases hg with h1 | h1 | h1 | h1
      · omega
      · omega
      · omega
      · exact ⟨h1.2.2.2.1, h1.2.2.2.2.2⟩
    have hc := hgood.2 c (by rw [← hcr]; exact List.mem_cons_self ..)
    have hsz : ((⟨u.s.toArray⟩ : ByteArray).size : Int) = (c :: r).length := by rw [hcr]; simp [ByteArray.size]
    refine ⟨rfl, ?_, ?_, ?_⟩
    · dsimp only
      rw [hb]
      intro h39
      have : c = 39 := UInt8.toNat.inj (by have : (39 : UInt8).toNat = 39 := rfl
                                           omega)
      rw [this] at hc
      exact absurd hc (by decide)
    · dsimp only
      rw [hsz, List.length_cons]; omega
    · dsimp only
      rw [hsz, Lib.extract_eq, hs, hpos, ← hcr]
      have e4 : ((a.length : Int)).toNat = a.length := Int.toNat_natCast _
      have e5 : ((a.length : Int) + ((c :: r).length : Int)).toNat - a.length = (c :: r).length := by omega
      rw [e4, e5, List.append_assoc, List.drop_left, List.take_left]
  · have ht : text u = [39] := by simp [text, h]
    have := txt _ (by omega) ht
    injection this with h1 _
    rw [hb, h1]; rfl
  · right; right; left
    have ht : text u = [39] := by simp [text, h]
    have := txt _ (by omega) ht
    injection this with h1 _
    exact ⟨rfl, by dsimp only; rw [hb, h1]; rfl, rfl⟩
  · have h1 : u.kind = 1 := by
      rcases hg with h | h | h | h <;> omega
    have ht : text u = [40] := by simp [text, h1]
    have := txt _ h4 ht
    injection this with h1 _
    rw [hb, h1]; rfl
theorem read_at (a0 : ByteArray) (hs : (a0.size : Int) ≤ 1000) (r1 : List S46) (r2 : List Int) (r3 r4 : Int) (h : readC.f a0 = some (r1, r2, r3, r4)) : r1.length ≤ 1000000 ∧ (r4 = 0 → ∀ x ∈ r1, PAt a0 x) := by
  have h := Option.some.inj h
  have hz := readR_sizes a0
  rw [h] at hz
  refine ⟨hz.1, fun h0 x hx => ?_⟩
  subst h0
  rcases readR_split a0 (by omega) with ⟨q, e, _, he, _, _, h1⟩ | ⟨l, h1, h2⟩
  · rw [h1] at h
    injection h with _ h; injection h with _ h; injection h with _ h
    exact absurd h he
  rw [h] at h2
  obtain ⟨A, X, hr, h3⟩ := readT_zero (l.map toS) (by rw [← h2])
  rw [h3] at h2
  injection h2 with h2 _
  subst h2
  have he := run_every (fun k p n s => PAt a0 ⟨k, p, n, s, []⟩) (fun p q => (0 ≤ p ∧ p < (a0.size : Int)) ∧ (q = true → bt a0 p = 39) ∧ (q = false → bt a0 p = 40))
    (fun p q h => ⟨h.1, .inr (.inr (.inr (.inr ⟨rfl, by
      cases q with
      | true => exact .inr (h.2.1 rfl)
      | false => exact .inl (h.2.2 rfl)⟩)))⟩) _ ⟨[], [], []⟩ _ ⟨fun x hx => by simp at hx, fun o ho => by simp at ho⟩ (fun t ht => by
        obtain ⟨u, hu, rfl⟩ := List.mem_map.1 ht
        exact tok_at a0 u ((lexA_stands _ _ _ h1).1 u hu)) hr
  exact he.1 x hx
open Go.RowKit in
/-- ReadAt, walked, with its plain law. -/
theorem readAt (a0 : ByteArray) (w : World) (hG : GoodW w) : Calls Tryd.prog 13 #[.string a0] w fun e w' => e = .returned (.bool true) ∧ Below w.heap.size w w' :=
  readAt_walk a0 w hG (fun hs r1 r2 r3 r4 h => read_at a0 hs r1 r2 r3 r4 h)
end Go.Proofs.YthempkdgmobocaaDoorRd
end
