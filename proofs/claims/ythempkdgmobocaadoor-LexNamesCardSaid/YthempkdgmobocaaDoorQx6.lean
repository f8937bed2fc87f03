-- Written by myprint.py, a program of the session's own, out of the translation. Lean checks it.
import Derived.Test.YthempkdgmobocaaDoorQx0
import Derived.Test.YthempkdgmobocaaDoorQx1
import Derived.Test.YthempkdgmobocaaDoorQx2
namespace Go.Proofs.YthempkdgmobocaaDoor.Q
open Go.RowKit Go.Proofs.YthempkdgmobocaaDoorX Go.Proofs.YthempkdgmobocaaDoorE Go.Proofs.YthempkdgmobocaaDoor.L Go.Proofs.YthempkdgmobocaaDoorW.PrintWords Go.Proofs.YthempkdgmobocaaDoorW.PrintLast Go.Proofs.YthempkdgmobocaaDoorW.PrintMore
attribute [local go_sem] max2_int min2_int max_two min_two max_three min_three max_four min_four   -- for this text's walks alone
attribute [local go_sem] cell_again map_some'
set_option linter.unusedVariables false
set_option linter.unusedSimpArgs false

attribute [local go_sem high] eqA30
/-! ### eddywheellaw05_LexNames: function 7 -/
def eddywheellaw05_LexNames.l0 : Nat → List Int → Bool → ByteArray → ByteArray → Bool → List Int → Int → Int → Option (Bool)
  | 0, _, _, _, _, _, _, _, _ => none
  | k + 1, x0, x3, x4, x5, x6, x18, x19, x20 => if x20 < x19 then (if 0 ≤ x20 then (if x20 < (x18.length : Int) then (if (x4.size : Int) = 0 then (none) else (if 0 ≤ (Int.tmod (wrap64 (rd x18 x20)) (x4.size : Int)) then (if (Int.tmod (wrap64 (rd x18 x20)) (x4.size : Int)) < (x4.size : Int) then ((some (([bt x4 (Int.tmod (wrap64 (rd x18 x20)) (x4.size : Int))] : List Int) : List Int)).bind fun y175 => (if x5.size + (strOfNums y175).size ≤ 9223372036854775807 then (if x6 = true then (if (bt x4 (Int.tmod (wrap64 (rd x18 x20)) (x4.size : Int))) ≥ 48 then (if (bt x4 (Int.tmod (wrap64 (rd x18 x20)) (x4.size : Int))) ≤ 57 then (eddywheellaw05_LexNames.l0 k x0 x3 x4 (x5 ++ (strOfNums y175)) true x18 x19 (wrap64 (x20 + 1))) else (if x20 = 0 then (if (bt x4 (Int.tmod (wrap64 (rd x18 x20)) (x4.size : Int))) = 45 then (eddywheellaw05_LexNames.l0 k x0 x3 x4 (x5 ++ (strOfNums y175)) (decide ((x0.length : Int) > 1)) x18 x19 (wrap64 (x20 + 1))) else (eddywheellaw05_LexNames.l0 k x0 x3 x4 (x5 ++ (strOfNums y175)) false x18 x19 (wrap64 (x20 + 1)))) else (eddywheellaw05_LexNames.l0 k x0 x3 x4 (x5 ++ (strOfNums y175)) false x18 x19 (wrap64 (x20 + 1))))) else (if x20 = 0 then (if (bt x4 (Int.tmod (wrap64 (rd x18 x20)) (x4.size : Int))) = 45 then (eddywheellaw05_LexNames.l0 k x0 x3 x4 (x5 ++ (strOfNums y175)) (decide ((x0.length : Int) > 1)) x18 x19 (wrap64 (x20 + 1))) else (eddywheellaw05_LexNames.l0 k x0 x3 x4 (x5 ++ (strOfNums y175)) false x18 x19 (wrap64 (x20 + 1)))) else (eddywheellaw05_LexNames.l0 k x0 x3 x4 (x5 ++ (strOfNums y175)) false x18 x19 (wrap64 (x20 + 1))))) else (eddywheellaw05_LexNames.l0 k x0 x3 x4 (x5 ++ (strOfNums y175)) false x18 x19 (wrap64 (x20 + 1)))) else (none))) else (none)) else (none))) else (none)) else (none)) else ((lexC.f x5).bind fun bt178 => (if x5.toList = ([] : List UInt8) then (if x3 = true then (if bt178.2.2 = 0 then (some ((bt178.1.length : Int) == 0)) else (some false)) else (some false)) else (if x6 = true then (if x3 = true then (if bt178.2.2 = 0 then (if (bt178.1.length : Int) = 1 then (if 0 < (bt178.1.length : Int) then (if ((rd_T30 bt178.1 0).f0) = 4 then (some true) else (if bt178.2.2 = 51 then (if bt178.2.1 = 0 then (some (decide ((x5.size : Int) > 12))) else (some false)) else (some false))) else (none)) else (if bt178.2.2 = 51 then (if bt178.2.1 = 0 then (some (decide ((x5.size : Int) > 12))) else (some false)) else (some false))) else (if bt178.2.2 = 51 then (if bt178.2.1 = 0 then (some (decide ((x5.size : Int) > 12))) else (some false)) else (some false))) else (some false)) else (if (x5.size : Int) > 32 then (if x3 = true then (if bt178.2.2 = 3 then (if bt178.2.1 = 0 then (some ((bt178.1.length : Int) == 0)) else (some false)) else (some false)) else (some false)) else (if x3 = true then (if bt178.2.2 = 0 then (if (bt178.1.length : Int) = 1 then (if 0 < (bt178.1.length : Int) then (some (((rd_T30 bt178.1 0).f0) == 6 && (((rd_T30 bt178.1 0).f1) == 0 && (((rd_T30 bt178.1 0).f2) == 0 && ((((rd_T30 bt178.1 0).f3).toList) == x5.toList))))) else (none)) else (some false)) else (some false)) else (some false))))))
def eddywheellaw05_LexNames.f (k : Nat) (l0 : List Int) : Option (Bool) := (eddywheellaw05_shown.f).bind fun t172 => (if 0 ≤ (mn (l0.length : Int) 60) then (if (mn (l0.length : Int) 60) ≤ (l0.length : Int) then (eddywheellaw05_LexNames.l0 k l0 t172 (⟨#[97, 98, 99, 120, 121, 122, 65, 66, 90, 48, 49, 50, 51, 52, 53, 54, 55, 56, 57, 33, 36, 37, 38, 42, 43, 45, 47, 58, 60, 61, 62, 63, 94, 95, 126]⟩ : ByteArray) (⟨#[]⟩ : ByteArray) true (l0.take ((mn (l0.length : Int) 60) : Int).toNat) ((l0.take ((mn (l0.length : Int) 60) : Int).toNat).length : Int) 0) else (none)) else (none))
theorem eddywheellaw05_LexNames.mono_l : ∀ k, (∀ y0 y1 y2 y3 y4 y5 y6 y7, LeO (eddywheellaw05_LexNames.l0 k y0 y1 y2 y3 y4 y5 y6 y7) (eddywheellaw05_LexNames.l0 (k + 1) y0 y1 y2 y3 y4 y5 y6 y7))
  | 0 => fun _ _ _ _ _ _ _ _ r h => by simp [eddywheellaw05_LexNames.l0] at h
  | k + 1 => by
    have ih0 := eddywheellaw05_LexNames.mono_l k
    · intro y0 y1 y2 y3 y4 y5 y6 y7
      unfold eddywheellaw05_LexNames.l0
      repeat' first
      | (with_reducible exact ih0 _ _ _ _ _ _ _ _)
      | (with_reducible exact LeO.refl _)
      | (with_reducible exact LeO.none _)
      | (with_reducible refine LeO.ite ?_ ?_)
      | (with_reducible refine LeO.bind ?_ (fun _ => ?_))
      | exact ih0 _ _ _ _ _ _ _ _
      | exact LeO.none _
      | refine LeO.ite ?_ ?_
      | refine LeO.bind ?_ (fun _ => ?_)
theorem eddywheellaw05_LexNames.mono : ∀ a0 k, LeO (eddywheellaw05_LexNames.f k a0) (eddywheellaw05_LexNames.f (k + 1) a0) := by
  intro a0 k
  have ih0 := eddywheellaw05_LexNames.mono_l k
  unfold eddywheellaw05_LexNames.f
  repeat' first
      | (with_reducible exact ih0 _ _ _ _ _ _ _ _)
      | (with_reducible exact LeO.refl _)
      | (with_reducible exact LeO.none _)
      | (with_reducible refine LeO.ite ?_ ?_)
      | (with_reducible refine LeO.bind ?_ (fun _ => ?_))
      | exact ih0 _ _ _ _ _ _ _ _
      | exact LeO.none _
      | refine LeO.ite ?_ ?_
      | refine LeO.bind ?_ (fun _ => ?_)
set_option maxHeartbeats 8000000 in
set_option maxRecDepth 100000 in
theorem eddywheellaw05_LexNames.calls (k : Nat) (A0 : Option Addr) (c0 : Nat) (l0 : List Int) (r : Bool) (w : World) (hG : GoodW w) (hr0 : Kd.C (Kd.int .u8) w A0 l0.length l0) (hc0 : l0.length ≤ c0) (h : eddywheellaw05_LexNames.f k l0 = some r) :
    Calls Tryd.prog 7 #[.slice A0 l0.length c0] w fun e w' => e = .returned (.bool r) ∧ Below w.heap.size w w' := by
  have HG := Aside0.mk hG
  clear hG
  have hu30 := Tryd.underlying30
  have HR0 := Aside0.mk hr0
  have HC0 := Aside0.mk hc0
  clear hr0 hc0
  have HB := Aside0.mk (Below.refl w.heap.size w)
  have H : ((eddywheellaw05_shown.f).bind fun t172 => (if 0 ≤ (mn (l0.length : Int) 60) then (if (mn (l0.length : Int) 60) ≤ (l0.length : Int) then (eddywheellaw05_LexNames.l0 k l0 t172 (⟨#[97, 98, 99, 120, 121, 122, 65, 66, 90, 48, 49, 50, 51, 52, 53, 54, 55, 56, 57, 33, 36, 37, 38, 42, 43, 45, 47, 58, 60, 61, 62, 63, 94, 95, 126]⟩ : ByteArray) (⟨#[]⟩ : ByteArray) true (l0.take ((mn (l0.length : Int) 60) : Int).toNat) ((l0.take ((mn (l0.length : Int) 60) : Int).toNat).length : Int) 0) else (none)) else (none))) = some r := h
  clear h
  replace H := Option.bind_eq_some_iff.mp H
  obtain ⟨t172, A20, H⟩ := H
  replace H : (if 0 ≤ (mn (l0.length : Int) 60) then (if (mn (l0.length : Int) 60) ≤ (l0.length : Int) then (eddywheellaw05_LexNames.l0 k l0 t172 (⟨#[97, 98, 99, 120, 121, 122, 65, 66, 90, 48, 49, 50, 51, 52, 53, 54, 55, 56, 57, 33, 36, 37, 38, 42, 43, 45, 47, 58, 60, 61, 62, 63, 94, 95, 126]⟩ : ByteArray) (⟨#[]⟩ : ByteArray) true (l0.take ((mn (l0.length : Int) 60) : Int).toNat) ((l0.take ((mn (l0.length : Int) 60) : Int).toNat).length : Int) 0) else (none)) else (none)) = some r := H
  have A2 := Aside0.mk A20
  clear A20
  obtain ⟨ji3, hji3⟩ : ∃ j_ : Int, (mn (l0.length : Int) 60) = j_ := ⟨_, rfl⟩
  replace H : (if 0 ≤ (ji3) then (if (ji3) ≤ (l0.length : Int) then (eddywheellaw05_LexNames.l0 k l0 t172 (⟨#[97, 98, 99, 120, 121, 122, 65, 66, 90, 48, 49, 50, 51, 52, 53, 54, 55, 56, 57, 33, 36, 37, 38, 42, 43, 45, 47, 58, 60, 61, 62, 63, 94, 95, 126]⟩ : ByteArray) (⟨#[]⟩ : ByteArray) true (l0.take ((ji3) : Int).toNat) ((l0.take ((ji3) : Int).toNat).length : Int) 0) else (none)) else (none)) = some r := by first | (rw [hji3] at H; exact H) | (simp only [hji3] at H ⊢; exact H)
  (try rw [hji3] at A2)
  (try (have hji3h : ji3 ≤ 60 := by (rw [← hji3]; unfold mn; (repeat' split) <;> omega)))
  (try (have hji3g : ji3 ≤ 64 := by omega))
  (try (have hji3l : 0 ≤ ji3 := by (rw [← hji3]; unfold mn; (repeat' split) <;> omega)))
  (try (have hji3m : 0 ≤ ji3 := by omega))
  have hji3_ : (if 60 < (l0.length : Int) then 60 else (l0.length : Int)) = ji3 := hji3
  by_cases c4 : 0 ≤ (ji3)
  · rw [if_pos c4] at H
    have c4b0 := eq_true c4
    have c4b1 : decide (0 ≤ (ji3)) = true := decide_eq_true c4
    clear c4
    by_cases c5 : (ji3) ≤ (l0.length : Int)
    · rw [if_pos c5] at H
      have c5b0 := eq_true c5
      have c5b1 : decide ((ji3) ≤ (l0.length : Int)) = true := decide_eq_true c5
      clear c5
      have H' := Aside0.mk H
      clear H
      go_enter Tryd.func7, Tryd.ntmps7
      go_wp2_with (first | ((with_reducible refine gate_callee (f := 16) rfl ?_); refine goesL_ (some 13) rfl rfl Tryd.func16 (by kernel_rfl) rfl #[] rfl (by (try simp only [List.map_toArray, List.map_cons, List.map_nil]); first | done | rfl | (simp only [List.length_drop, List.length_take]; rfl)) ?_; (with_reducible refine (eddywheellaw05_shown.calls  t172 _ ?side1 A2.out).mono ?_); (case side1 => exact GoodW.below HG.out (by repeat (first | (with_reducible first | exact HB.out | apply below_alloc | apply pw_below_drewN | apply below_drew1) | exact HB.out))); rintro e w6 ⟨rfl, hb⟩; refine ⟨_, rfl, ?_⟩; have n0_ := Aside0.mk (below_step (by repeat (first | (with_reducible first | exact HB.out | apply below_alloc | apply pw_below_drewN | apply below_drew1) | exact HB.out)) hb); clear HB; have HB := n0_; clear n0_; (try clear hb); (try clear hb2); (try clear hk); (try clear hi); obtain ⟨i07, hi07, _, hsz7, _⟩ := info_parts info5; obtain ⟨hcut7, hA7, hC7⟩ := print_take_of (P := Tryd.prog) (Value.int .u8) 0 35 5 .i64 Tryd.underlying35 hi07 hsz7 A0 c0 l0 (ji3) (of_decide_eq_true (by first | (with_reducible assumption) | assumption)) (of_decide_eq_true (by first | (with_reducible assumption) | assumption)) HC0.out; have HR173 := Aside0.mk (Kd.C_of_reads (h1 := fun _ => rfl) (hA7 _ (Kd.reads_of_C HR0.out))); have HC173 := Aside0.mk hC7; clear hA7 hC7 hi07 hsz7))
      generalize hL4_ : (⟨#[97, 98, 99, 120, 121, 122, 65, 66, 90, 48, 49, 50, 51, 52, 53, 54, 55, 56, 57, 33, 36, 37, 38, 42, 43, 45, 47, 58, 60, 61, 62, 63, 94, 95, 126]⟩ : ByteArray) = L4 at H' ⊢
      clear hL4_
      go_loopg [5, 6, 20] k (fun kq v5 v6 v20 w' => ∃ (x5_1 : ByteArray) (x6_1 : Bool) (x20_1 : Int), v5 = .string x5_1 ∧ v6 = .bool x6_1 ∧ v20 = .int .i64 x20_1 ∧ Aside0 (eddywheellaw05_LexNames.l0 kq l0 t172 L4 x5_1 x6_1 (l0.take ((ji3) : Int).toNat) ((l0.take ((ji3) : Int).toNat).length : Int) x20_1 = some r) ∧ Aside0 (kq ≤ k) ∧ Aside0 (Below w.heap.size w w'))
      case atStart => exact ⟨((⟨#[]⟩ : ByteArray)), (true), (0), (by first | rfl | (simp; done) | (simp [*]; done)), (by first | rfl | (simp; done) | (simp [*]; done)), (by first | rfl | (simp; done) | (simp [*]; done)), H', ⟨Nat.le_refl _⟩, ⟨by repeat (first | (with_reducible first | exact HB.out | apply below_alloc | apply pw_below_drewN | apply below_drew1) | exact HB.out)⟩⟩
      case round =>
        clear H'
        try clear c1
        try clear p2
        try clear c4
        try clear c4b0
        try clear c4b1
        try clear c5
        try clear c5b0
        try clear c5b1
        try clear c7
        obtain ⟨x5_1, x6_1, x20_1, rfl, rfl, rfl, HA, HK1, HB⟩ := hrel
        cases gk with
        | zero => exact absurd HA.out (by simp [eddywheellaw05_LexNames.l0])
        | succ k1 =>
          have H := HA.out
          clear HA
          simp only [eddywheellaw05_LexNames.l0] at H
          by_cases c8 : x20_1 < ((l0.take ((ji3) : Int).toNat).length : Int)
          · rw [if_pos c8] at H
            have c8b0 : decide (x20_1 < ((l0.take ((ji3) : Int).toNat).length : Int)) = true := decide_eq_true c8
            have c8m : decide (x20_1 < max ji3 0) = true := by have h_ := of_decide_eq_true c8b0; apply decide_eq_true; rw [List.length_take] at h_; omega
            have c8n : (x20_1 < max ji3 0) = True := eq_true (of_decide_eq_true c8m)
            have c8o : (max ji3 0 ≤ x20_1) = False := eq_false (by have h_ := of_decide_eq_true c8m; omega)
            clear c8
            by_cases c9 : 0 ≤ x20_1
            · rw [if_pos c9] at H
              have c9b0 : decide (0 ≤ x20_1) = true := decide_eq_true c9
              clear c9
              by_cases c10 : x20_1 < ((l0.take ((ji3) : Int).toNat).length : Int)
              · rw [if_pos c10] at H
                have c10b0 : decide (x20_1 < ((l0.take ((ji3) : Int).toNat).length : Int)) = true := decide_eq_true c10
                clear c10
                by_cases c11 : (L4.size : Int) = 0
                · rw [if_pos c11] at H
                  exact absurd H (by simp)
                · rw [if_neg c11] at H
                  have c11b0 : ((L4.size : Int) == 0) = false := beq_eq_false_iff_ne.mpr c11
                  have c11b1 : ((L4.size : Int) != 0) = true := bne_iff_ne.mpr c11
                  obtain ⟨ji12, hji12⟩ : ∃ j_ : Int, (Int.tmod (wrap64 (rd (l0.take ((ji3) : Int).toNat) x20_1)) (L4.size : Int)) = j_ := ⟨_, rfl⟩
                  replace H : (if 0 ≤ (ji12) then (if (ji12) < (L4.size : Int) then ((some (([bt L4 (ji12)] : List Int) : List Int)).bind fun y175 => (if x5_1.size + (strOfNums y175).size ≤ 9223372036854775807 then (if x6_1 = true then (if (bt L4 (ji12)) ≥ 48 then (if (bt L4 (ji12)) ≤ 57 then (eddywheellaw05_LexNames.l0 k1 l0 t172 L4 (x5_1 ++ (strOfNums y175)) true (l0.take ((ji3) : Int).toNat) ((l0.take ((ji3) : Int).toNat).length : Int) (wrap64 (x20_1 + 1))) else (if x20_1 = 0 then (if (bt L4 (ji12)) = 45 then (eddywheellaw05_LexNames.l0 k1 l0 t172 L4 (x5_1 ++ (strOfNums y175)) (decide ((l0.length : Int) > 1)) (l0.take ((ji3) : Int).toNat) ((l0.take ((ji3) : Int).toNat).length : Int) (wrap64 (x20_1 + 1))) else (eddywheellaw05_LexNames.l0 k1 l0 t172 L4 (x5_1 ++ (strOfNums y175)) false (l0.take ((ji3) : Int).toNat) ((l0.take ((ji3) : Int).toNat).length : Int) (wrap64 (x20_1 + 1)))) else (eddywheellaw05_LexNames.l0 k1 l0 t172 L4 (x5_1 ++ (strOfNums y175)) false (l0.take ((ji3) : Int).toNat) ((l0.take ((ji3) : Int).toNat).length : Int) (wrap64 (x20_1 + 1))))) else (if x20_1 = 0 then (if (bt L4 (ji12)) = 45 then (eddywheellaw05_LexNames.l0 k1 l0 t172 L4 (x5_1 ++ (strOfNums y175)) (decide ((l0.length : Int) > 1)) (l0.take ((ji3) : Int).toNat) ((l0.take ((ji3) : Int).toNat).length : Int) (wrap64 (x20_1 + 1))) else (eddywheellaw05_LexNames.l0 k1 l0 t172 L4 (x5_1 ++ (strOfNums y175)) false (l0.take ((ji3) : Int).toNat) ((l0.take ((ji3) : Int).toNat).length : Int) (wrap64 (x20_1 + 1)))) else (eddywheellaw05_LexNames.l0 k1 l0 t172 L4 (x5_1 ++ (strOfNums y175)) false (l0.take ((ji3) : Int).toNat) ((l0.take ((ji3) : Int).toNat).length : Int) (wrap64 (x20_1 + 1))))) else (eddywheellaw05_LexNames.l0 k1 l0 t172 L4 (x5_1 ++ (strOfNums y175)) false (l0.take ((ji3) : Int).toNat) ((l0.take ((ji3) : Int).toNat).length : Int) (wrap64 (x20_1 + 1)))) else (none))) else (none)) else (none)) = some r := by first | (rw [hji12] at H; exact H) | (simp only [hji12] at H ⊢; exact H)
                  by_cases c13 : 0 ≤ (ji12)
                  · rw [if_pos c13] at H
                    have c13b0 : decide (0 ≤ (ji12)) = true := decide_eq_true c13
                    clear c13
                    by_cases c14 : (ji12) < (L4.size : Int)
                    · rw [if_pos c14] at H
                      have c14b0 : decide ((ji12) < (L4.size : Int)) = true := decide_eq_true c14
                      clear c14
                      obtain ⟨y175, hy175⟩ : ∃ y_ : List Int, y_ = (([bt L4 (ji12)] : List Int)) := ⟨_, rfl⟩
                      replace H : (if x5_1.size + (strOfNums y175).size ≤ 9223372036854775807 then (if x6_1 = true then (if (bt L4 (ji12)) ≥ 48 then (if (bt L4 (ji12)) ≤ 57 then (eddywheellaw05_LexNames.l0 k1 l0 t172 L4 (x5_1 ++ (strOfNums y175)) true (l0.take ((ji3) : Int).toNat) ((l0.take ((ji3) : Int).toNat).length : Int) (wrap64 (x20_1 + 1))) else (if x20_1 = 0 then (if (bt L4 (ji12)) = 45 then (eddywheellaw05_LexNames.l0 k1 l0 t172 L4 (x5_1 ++ (strOfNums y175)) (decide ((l0.length : Int) > 1)) (l0.take ((ji3) : Int).toNat) ((l0.take ((ji3) : Int).toNat).length : Int) (wrap64 (x20_1 + 1))) else (eddywheellaw05_LexNames.l0 k1 l0 t172 L4 (x5_1 ++ (strOfNums y175)) false (l0.take ((ji3) : Int).toNat) ((l0.take ((ji3) : Int).toNat).length : Int) (wrap64 (x20_1 + 1)))) else (eddywheellaw05_LexNames.l0 k1 l0 t172 L4 (x5_1 ++ (strOfNums y175)) false (l0.take ((ji3) : Int).toNat) ((l0.take ((ji3) : Int).toNat).length : Int) (wrap64 (x20_1 + 1))))) else (if x20_1 = 0 then (if (bt L4 (ji12)) = 45 then (eddywheellaw05_LexNames.l0 k1 l0 t172 L4 (x5_1 ++ (strOfNums y175)) (decide ((l0.length : Int) > 1)) (l0.take ((ji3) : Int).toNat) ((l0.take ((ji3) : Int).toNat).length : Int) (wrap64 (x20_1 + 1))) else (eddywheellaw05_LexNames.l0 k1 l0 t172 L4 (x5_1 ++ (strOfNums y175)) false (l0.take ((ji3) : Int).toNat) ((l0.take ((ji3) : Int).toNat).length : Int) (wrap64 (x20_1 + 1)))) else (eddywheellaw05_LexNames.l0 k1 l0 t172 L4 (x5_1 ++ (strOfNums y175)) false (l0.take ((ji3) : Int).toNat) ((l0.take ((ji3) : Int).toNat).length : Int) (wrap64 (x20_1 + 1))))) else (eddywheellaw05_LexNames.l0 k1 l0 t172 L4 (x5_1 ++ (strOfNums y175)) false (l0.take ((ji3) : Int).toNat) ((l0.take ((ji3) : Int).toNat).length : Int) (wrap64 (x20_1 + 1)))) else (none)) = some r := by first | (rw [hy175]; with_reducible exact H) | (have H2_ := (Option.bind_some _ _).symm.trans H; rw [hy175]; with_reducible exact H2_) | (have H2_ := (Option.bind_some _ _).symm.trans H; with_reducible exact H2_) | with_reducible exact H | (rw [hy175]; exact H) | exact H
                      have Ny175 := Aside0.mk hy175
                      clear hy175
                      by_cases c16 : x5_1.size + (strOfNums y175).size ≤ 9223372036854775807
                      · rw [if_pos c16] at H
                        have c16b0 := eq_true c16
                        have c16b1 : decide (x5_1.size + (strOfNums y175).size ≤ 9223372036854775807) = true := decide_eq_true c16
                        try have c16b2 : (9223372036854775807 < x5_1.size + (strOfNums y175).size) = False := eq_false (Nat.not_lt.2 c16)
                        by_cases c17 : x6_1 = true
                        · subst c17
                          have H1 : (if (bt L4 (ji12)) ≥ 48 then (if (bt L4 (ji12)) ≤ 57 then (eddywheellaw05_LexNames.l0 k1 l0 t172 L4 (x5_1 ++ (strOfNums y175)) true (l0.take ((ji3) : Int).toNat) ((l0.take ((ji3) : Int).toNat).length : Int) (wrap64 (x20_1 + 1))) else (if x20_1 = 0 then (if (bt L4 (ji12)) = 45 then (eddywheellaw05_LexNames.l0 k1 l0 t172 L4 (x5_1 ++ (strOfNums y175)) (decide ((l0.length : Int) > 1)) (l0.take ((ji3) : Int).toNat) ((l0.take ((ji3) : Int).toNat).length : Int) (wrap64 (x20_1 + 1))) else (eddywheellaw05_LexNames.l0 k1 l0 t172 L4 (x5_1 ++ (strOfNums y175)) false (l0.take ((ji3) : Int).toNat) ((l0.take ((ji3) : Int).toNat).length : Int) (wrap64 (x20_1 + 1)))) else (eddywheellaw05_LexNames.l0 k1 l0 t172 L4 (x5_1 ++ (strOfNums y175)) false (l0.take ((ji3) : Int).toNat) ((l0.take ((ji3) : Int).toNat).length : Int) (wrap64 (x20_1 + 1))))) else (if x20_1 = 0 then (if (bt L4 (ji12)) = 45 then (eddywheellaw05_LexNames.l0 k1 l0 t172 L4 (x5_1 ++ (strOfNums y175)) (decide ((l0.length : Int) > 1)) (l0.take ((ji3) : Int).toNat) ((l0.take ((ji3) : Int).toNat).length : Int) (wrap64 (x20_1 + 1))) else (eddywheellaw05_LexNames.l0 k1 l0 t172 L4 (x5_1 ++ (strOfNums y175)) false (l0.take ((ji3) : Int).toNat) ((l0.take ((ji3) : Int).toNat).length : Int) (wrap64 (x20_1 + 1)))) else (eddywheellaw05_LexNames.l0 k1 l0 t172 L4 (x5_1 ++ (strOfNums y175)) false (l0.take ((ji3) : Int).toNat) ((l0.take ((ji3) : Int).toNat).length : Int) (wrap64 (x20_1 + 1))))) = some r := by rw [if_pos rfl] at H; exact H
                          clear H
                          have H := H1
                          clear H1
                          by_cases c18 : (bt L4 (ji12)) ≥ 48
                          · rw [if_pos c18] at H
                            have c18b0 : decide (48 ≤ (bt L4 (ji12))) = true := decide_eq_true c18
                            clear c18
                            by_cases c19 : (bt L4 (ji12)) ≤ 57
                            · rw [if_pos c19] at H
                              have c19b0 : decide ((bt L4 (ji12)) ≤ 57) = true := decide_eq_true c19
                              clear c19
                              have H' := Aside0.mk H
                              clear H
                              have p174 : 0 ≤ (x20_1 : Int) := of_decide_eq_true (by first | (with_reducible assumption) | assumption)
                              have q174 : x20_1 < ((l0.take ((ji3) : Int).toNat).length : Int) := of_decide_eq_true (by first | (with_reducible assumption) | assumption)
                              obtain ⟨ad174, e174, hx174_0⟩ := Kd.at_int HR173.out x20_1 p174 q174
                              cases e174
                              replace hx174_0 := (HB.out.cell (World.block_lt_of_cell? w _ hx174_0)).trans hx174_0
                              replace p174 := eq_true p174
                              replace q174 := eq_true q174
                              have p15 : 0 ≤ ((ji12) : Int) := of_decide_eq_true (by first | (with_reducible assumption) | assumption)
                              have q15 : (ji12) < (L4.size : Int) := of_decide_eq_true (by first | (with_reducible assumption) | assumption)
                              have hx15 := bt_at L4 (ji12)
                              replace p15 := eq_true p15
                              replace q15 := eq_true q15
                              go_wp2_with (first | ((with_reducible refine gate_dst (N := 34) rfl ?_); (try (refine gate_guard (by rfl) ?_; dsimp only)); refine Kd.R_lit (Kd.int .u8) _ 5 ?hg (N := 34) ?hd (xs := ([bt L4 (ji12)] : List Int)) (inner := [.int .u8 (bt L4 (ji12))]) (ok := fun _ => True) (okp := fun _ => True) ?hr ?hp (fun _ hk => hk) trivial (Below.refl _ _) (Nat.le_refl _) (by simp) ?_; (case hd => rfl); (case hg => rfl); (case hr => first | (go_simp; done) | (go_simp; rfl)); (case hp => exact (Reps.one (show Kd.M (Kd.int .u8) _ _ _ (bt L4 (ji12)) [.int .u8 (bt L4 (ji12))] from rfl) (Reps.none _ _))); intro v176 w20 ho21 hb hg_ hnew_; clear hg_ hnew_; (first | rw [← Ny175.out] at ho21 | (simp only [Int.reduceToNat] at ho21; rw [← Ny175.out] at ho21)); have n0_ := Aside0.mk (Kd.R_lower ho21 (below_size (by repeat (first | (with_reducible first | exact HB.out | apply below_alloc | apply pw_below_drewN | apply below_drew1) | exact HB.out)))); have n1_ := Aside0.mk (below_step (by repeat (first | (with_reducible first | exact HB.out | apply below_alloc | apply pw_below_drewN | apply below_drew1) | exact HB.out)) hb); clear HB; have HO177 := n0_; have HB := n1_; clear n0_ n1_; clear hb ho21; have hcv22 := own_string (P := Tryd.prog) Tryd.underlying35 Tryd.underlying5 Tryd.underlying9 (Kd.own_of_R HO177.out)))
                              go_roundg k1
                              case measure => have := HK1.out; omega
                              case rel => exact ⟨(x5_1 ++ (strOfNums y175)), (true), (wrap64 (x20_1 + 1)), (by first | rfl | (simp; done) | (simp [*]; done)), (by first | rfl | (simp; done) | (simp [*]; done)), (by first | rfl | (simp; done) | (simp [*]; done)), H', ⟨by have := HK1.out; omega⟩, ⟨by repeat (first | (with_reducible first | exact HB.out | apply below_alloc | apply pw_below_drewN | apply below_drew1) | exact HB.out)⟩⟩
                            · rw [if_neg c19] at H
                              have c19b0 : decide ((bt L4 (ji12)) ≤ 57) = false := decide_eq_false c19
                              clear c19
                              by_cases c23 : x20_1 = 0
                              · rw [if_pos c23] at H
                                have c23b0 : (x20_1 == 0) = true := beq_iff_eq.mpr c23
                                have c23b1 : (x20_1 != 0) = false := bne_eq_false_iff_eq.mpr c23
                                clear c23
                                by_cases c24 : (bt L4 (ji12)) = 45
                                · rw [if_pos c24] at H
                                  have c24b0 : ((bt L4 (ji12)) == 45) = true := beq_iff_eq.mpr c24
                                  have c24b1 : ((bt L4 (ji12)) != 45) = false := bne_eq_false_iff_eq.mpr c24
                                  clear c24
                                  have H' := Aside0.mk H
                                  clear H
                                  have p174 : 0 ≤ (x20_1 : Int) := of_decide_eq_true (by first | (with_reducible assumption) | assumption)
                                  have q174 : x20_1 < ((l0.take ((ji3) : Int).toNat).length : Int) := of_decide_eq_true (by first | (with_reducible assumption) | assumption)
                                  obtain ⟨ad174, e174, hx174_0⟩ := Kd.at_int HR173.out x20_1 p174 q174
                                  cases e174
                                  replace hx174_0 := (HB.out.cell (World.block_lt_of_cell? w _ hx174_0)).trans hx174_0
                                  replace p174 := eq_true p174
                                  replace q174 := eq_true q174
                                  have p15 : 0 ≤ ((ji12) : Int) := of_decide_eq_true (by first | (with_reducible assumption) | assumption)
                                  have q15 : (ji12) < (L4.size : Int) := of_decide_eq_true (by first | (with_reducible assumption) | assumption)
                                  have hx15 := bt_at L4 (ji12)
                                  replace p15 := eq_true p15
                                  replace q15 := eq_true q15
                                  go_wp2_with (first | ((with_reducible refine gate_dst (N := 34) rfl ?_); (try (refine gate_guard (by rfl) ?_; dsimp only)); refine Kd.R_lit (Kd.int .u8) _ 5 ?hg (N := 34) ?hd (xs := ([bt L4 (ji12)] : List Int)) (inner := [.int .u8 (bt L4 (ji12))]) (ok := fun _ => True) (okp := fun _ => True) ?hr ?hp (fun _ hk => hk) trivial (Below.refl _ _) (Nat.le_refl _) (by simp) ?_; (case hd => rfl); (case hg => rfl); (case hr => first | (go_simp; done) | (go_simp; rfl)); (case hp => exact (Reps.one (show Kd.M (Kd.int .u8) _ _ _ (bt L4 (ji12)) [.int .u8 (bt L4 (ji12))] from rfl) (Reps.none _ _))); intro v176 w25 ho26 hb hg_ hnew_; clear hg_ hnew_; (first | rw [← Ny175.out] at ho26 | (simp only [Int.reduceToNat] at ho26; rw [← Ny175.out] at ho26)); have n0_ := Aside0.mk (Kd.R_lower ho26 (below_size (by repeat (first | (with_reducible first | exact HB.out | apply below_alloc | apply pw_below_drewN | apply below_drew1) | exact HB.out)))); have n1_ := Aside0.mk (below_step (by repeat (first | (with_reducible first | exact HB.out | apply below_alloc | apply pw_below_drewN | apply below_drew1) | exact HB.out)) hb); clear HB; have HO177 := n0_; have HB := n1_; clear n0_ n1_; clear hb ho26; have hcv27 := own_string (P := Tryd.prog) Tryd.underlying35 Tryd.underlying5 Tryd.underlying9 (Kd.own_of_R HO177.out)))
                                  go_roundg k1
                                  case measure => have := HK1.out; omega
                                  case rel => exact ⟨(x5_1 ++ (strOfNums y175)), (decide ((l0.length : Int) > 1)), (wrap64 (x20_1 + 1)), (by first | rfl | (simp; done) | (simp [*]; done)), (by first | rfl | (simp; done) | (simp [*]; done)), (by first | rfl | (simp; done) | (simp [*]; done)), H', ⟨by have := HK1.out; omega⟩, ⟨by repeat (first | (with_reducible first | exact HB.out | apply below_alloc | apply pw_below_drewN | apply below_drew1) | exact HB.out)⟩⟩
                                · rw [if_neg c24] at H
                                  have c24b0 : ((bt L4 (ji12)) == 45) = false := beq_eq_false_iff_ne.mpr c24
                                  have c24b1 : ((bt L4 (ji12)) != 45) = true := bne_iff_ne.mpr c24
                                  have H' := Aside0.mk H
                                  clear H
                                  have p174 : 0 ≤ (x20_1 : Int) := of_decide_eq_true (by first | (with_reducible assumption) | assumption)
                                  have q174 : x20_1 < ((l0.take ((ji3) : Int).toNat).length : Int) := of_decide_eq_true (by first | (with_reducible assumption) | assumption)
                                  obtain ⟨ad174, e174, hx174_0⟩ := Kd.at_int HR173.out x20_1 p174 q174
                                  cases e174
                                  replace hx174_0 := (HB.out.cell (World.block_lt_of_cell? w _ hx174_0)).trans hx174_0
                                  replace p174 := eq_true p174
                                  replace q174 := eq_true q174
                                  have p15 : 0 ≤ ((ji12) : Int) := of_decide_eq_true (by first | (with_reducible assumption) | assumption)
                                  have q15 : (ji12) < (L4.size : Int) := of_decide_eq_true (by first | (with_reducible assumption) | assumption)
                                  have hx15 := bt_at L4 (ji12)
                                  replace p15 := eq_true p15
                                  replace q15 := eq_true q15
                                  go_wp2_with (first | ((with_reducible refine gate_dst (N := 34) rfl ?_); (try (refine gate_guard (by rfl) ?_; dsimp only)); refine Kd.R_lit (Kd.int .u8) _ 5 ?hg (N := 34) ?hd (xs := ([bt L4 (ji12)] : List Int)) (inner := [.int .u8 (bt L4 (ji12))]) (ok := fun _ => True) (okp := fun _ => True) ?hr ?hp (fun _ hk => hk) trivial (Below.refl _ _) (Nat.le_refl _) (by simp) ?_; (case hd => rfl); (case hg => rfl); (case hr => first | (go_simp; done) | (go_simp; rfl)); (case hp => exact (Reps.one (show Kd.M (Kd.int .u8) _ _ _ (bt L4 (ji12)) [.int .u8 (bt L4 (ji12))] from rfl) (Reps.none _ _))); intro v176 w28 ho29 hb hg_ hnew_; clear hg_ hnew_; (first | rw [← Ny175.out] at ho29 | (simp only [Int.reduceToNat] at ho29; rw [← Ny175.out] at ho29)); have n0_ := Aside0.mk (Kd.R_lower ho29 (below_size (by repeat (first | (with_reducible first | exact HB.out | apply below_alloc | apply pw_below_drewN | apply below_drew1) | exact HB.out)))); have n1_ := Aside0.mk (below_step (by repeat (first | (with_reducible first | exact HB.out | apply below_alloc | apply pw_below_drewN | apply below_drew1) | exact HB.out)) hb); clear HB; have HO177 := n0_; have HB := n1_; clear n0_ n1_; clear hb ho29; have hcv30 := own_string (P := Tryd.prog) Tryd.underlying35 Tryd.underlying5 Tryd.underlying9 (Kd.own_of_R HO177.out)))
                                  go_roundg k1
                                  case measure => have := HK1.out; omega
                                  case rel => exact ⟨(x5_1 ++ (strOfNums y175)), (false), (wrap64 (x20_1 + 1)), (by first | rfl | (simp; done) | (simp [*]; done)), (by first | rfl | (simp; done) | (simp [*]; done)), (by first | rfl | (simp; done) | (simp [*]; done)), H', ⟨by have := HK1.out; omega⟩, ⟨by repeat (first | (with_reducible first | exact HB.out | apply below_alloc | apply pw_below_drewN | apply below_drew1) | exact HB.out)⟩⟩
                              · rw [if_neg c23] at H
                                have c23b0 : (x20_1 == 0) = false := beq_eq_false_iff_ne.mpr c23
                                have c23b1 : (x20_1 != 0) = true := bne_iff_ne.mpr c23
                                have H' := Aside0.mk H
                                clear H
                                have p174 : 0 ≤ (x20_1 : Int) := of_decide_eq_true (by first | (with_reducible assumption) | assumption)
                                have q174 : x20_1 < ((l0.take ((ji3) : Int).toNat).length : Int) := of_decide_eq_true (by first | (with_reducible assumption) | assumption)
                                obtain ⟨ad174, e174, hx174_0⟩ := Kd.at_int HR173.out x20_1 p174 q174
                                cases e174
                                replace hx174_0 := (HB.out.cell (World.block_lt_of_cell? w _ hx174_0)).trans hx174_0
                                replace p174 := eq_true p174
                                replace q174 := eq_true q174
                                have p15 : 0 ≤ ((ji12) : Int) := of_decide_eq_true (by first | (with_reducible assumption) | assumption)
                                have q15 : (ji12) < (L4.size : Int) := of_decide_eq_true (by first | (with_reducible assumption) | assumption)
                                have hx15 := bt_at L4 (ji12)
                                replace p15 := eq_true p15
                                replace q15 := eq_true q15
                                go_wp2_with (first | ((with_reducible refine gate_dst (N := 34) rfl ?_); (try (refine gate_guard (by rfl) ?_; dsimp only)); refine Kd.R_lit (Kd.int .u8) _ 5 ?hg (N := 34) ?hd (xs := ([bt L4 (ji12)] : List Int)) (inner := [.int .u8 (bt L4 (ji12))]) (ok := fun _ => True) (okp := fun _ => True) ?hr ?hp (fun _ hk => hk) trivial (Below.refl _ _) (Nat.le_refl _) (by simp) ?_; (case hd => rfl); (case hg => rfl); (case hr => first | (go_simp; done) | (go_simp; rfl)); (case hp => exact (Reps.one (show Kd.M (Kd.int .u8) _ _ _ (bt L4 (ji12)) [.int .u8 (bt L4 (ji12))] from rfl) (Reps.none _ _))); intro v176 w31 ho32 hb hg_ hnew_; clear hg_ hnew_; (first | rw [← Ny175.out] at ho32 | (simp only [Int.reduceToNat] at ho32; rw [← Ny175.out] at ho32)); have n0_ := Aside0.mk (Kd.R_lower ho32 (below_size (by repeat (first | (with_reducible first | exact HB.out | apply below_alloc | apply pw_below_drewN | apply below_drew1) | exact HB.out)))); have n1_ := Aside0.mk (below_step (by repeat (first | (with_reducible first | exact HB.out | apply below_alloc | apply pw_below_drewN | apply below_drew1) | exact HB.out)) hb); clear HB; have HO177 := n0_; have HB := n1_; clear n0_ n1_; clear hb ho32; have hcv33 := own_string (P := Tryd.prog) Tryd.underlying35 Tryd.underlying5 Tryd.underlying9 (Kd.own_of_R HO177.out)))
                                go_roundg k1
                                case measure => have := HK1.out; omega
                                case rel => exact ⟨(x5_1 ++ (strOfNums y175)), (false), (wrap64 (x20_1 + 1)), (by first | rfl | (simp; done) | (simp [*]; done)), (by first | rfl | (simp; done) | (simp [*]; done)), (by first | rfl | (simp; done) | (simp [*]; done)), H', ⟨by have := HK1.out; omega⟩, ⟨by repeat (first | (with_reducible first | exact HB.out | apply below_alloc | apply pw_below_drewN | apply below_drew1) | exact HB.out)⟩⟩
                          · rw [if_neg c18] at H
                            have c18b0 : decide (48 ≤ (bt L4 (ji12))) = false := decide_eq_false c18
                            clear c18
                            by_cases c34 : x20_1 = 0
                            · rw [if_pos c34] at H
                              have c34b0 : (x20_1 == 0) = true := beq_iff_eq.mpr c34
                              have c34b1 : (x20_1 != 0) = false := bne_eq_false_iff_eq.mpr c34
                              clear c34
                              by_cases c35 : (bt L4 (ji12)) = 45
                              · rw [if_pos c35] at H
                                have c35b0 : ((bt L4 (ji12)) == 45) = true := beq_iff_eq.mpr c35
                                have c35b1 : ((bt L4 (ji12)) != 45) = false := bne_eq_false_iff_eq.mpr c35
                                clear c35
                                have H' := Aside0.mk H
                                clear H
                                have p174 : 0 ≤ (x20_1 : Int) := of_decide_eq_true (by first | (with_reducible assumption) | assumption)
                                have q174 : x20_1 < ((l0.take ((ji3) : Int).toNat).length : Int) := of_decide_eq_true (by first | (with_reducible assumption) | assumption)
                                obtain ⟨ad174, e174, hx174_0⟩ := Kd.at_int HR173.out x20_1 p174 q174
                                cases e174
                                replace hx174_0 := (HB.out.cell (World.block_lt_of_cell? w _ hx174_0)).trans hx174_0
                                replace p174 := eq_true p174
                                replace q174 := eq_true q174
                                have p15 : 0 ≤ ((ji12) : Int) := of_decide_eq_true (by first | (with_reducible assumption) | assumption)
                                have q15 : (ji12) < (L4.size : Int) := of_decide_eq_true (by first | (with_reducible assumption) | assumption)
                                have hx15 := bt_at L4 (ji12)
                                replace p15 := eq_true p15
                                replace q15 := eq_true q15
                                go_wp2_with (first | ((with_reducible refine gate_dst (N := 34) rfl ?_); (try (refine gate_guard (by rfl) ?_; dsimp only)); refine Kd.R_lit (Kd.int .u8) _ 5 ?hg (N := 34) ?hd (xs := ([bt L4 (ji12)] : List Int)) (inner := [.int .u8 (bt L4 (ji12))]) (ok := fun _ => True) (okp := fun _ => True) ?hr ?hp (fun _ hk => hk) trivial (Below.refl _ _) (Nat.le_refl _) (by simp) ?_; (case hd => rfl); (case hg => rfl); (case hr => first | (go_simp; done) | (go_simp; rfl)); (case hp => exact (Reps.one (show Kd.M (Kd.int .u8) _ _ _ (bt L4 (ji12)) [.int .u8 (bt L4 (ji12))] from rfl) (Reps.none _ _))); intro v176 w36 ho37 hb hg_ hnew_; clear hg_ hnew_; (first | rw [← Ny175.out] at ho37 | (simp only [Int.reduceToNat] at ho37; rw [← Ny175.out] at ho37)); have n0_ := Aside0.mk (Kd.R_lower ho37 (below_size (by repeat (first | (with_reducible first | exact HB.out | apply below_alloc | apply pw_below_drewN | apply below_drew1) | exact HB.out)))); have n1_ := Aside0.mk (below_step (by repeat (first | (with_reducible first | exact HB.out | apply below_alloc | apply pw_below_drewN | apply below_drew1) | exact HB.out)) hb); clear HB; have HO177 := n0_; have HB := n1_; clear n0_ n1_; clear hb ho37; have hcv38 := own_string (P := Tryd.prog) Tryd.underlying35 Tryd.underlying5 Tryd.underlying9 (Kd.own_of_R HO177.out)))
                                go_roundg k1
                                case measure => have := HK1.out; omega
                                case rel => exact ⟨(x5_1 ++ (strOfNums y175)), (decide ((l0.length : Int) > 1)), (wrap64 (x20_1 + 1)), (by first | rfl | (simp; done) | (simp [*]; done)), (by first | rfl | (simp; done) | (simp [*]; done)), (by first | rfl | (simp; done) | (simp [*]; done)), H', ⟨by have := HK1.out; omega⟩, ⟨by repeat (first | (with_reducible first | exact HB.out | apply below_alloc | apply pw_below_drewN | apply below_drew1) | exact HB.out)⟩⟩
                              · rw [if_neg c35] at H
                                have c35b0 : ((bt L4 (ji12)) == 45) = false := beq_eq_false_iff_ne.mpr c35
                                have c35b1 : ((bt L4 (ji12)) != 45) = true := bne_iff_ne.mpr c35
                                have H' := Aside0.mk H
                                clear H
                                have p174 : 0 ≤ (x20_1 : Int) := of_decide_eq_true (by first | (with_reducible assumption) | assumption)
                                have q174 : x20_1 < ((l0.take ((ji3) : Int).toNat).length : Int) := of_decide_eq_true (by first | (with_reducible assumption) | assumption)
                                obtain ⟨ad174, e174, hx174_0⟩ := Kd.at_int HR173.out x20_1 p174 q174
                                cases e174
                                replace hx174_0 := (HB.out.cell (World.block_lt_of_cell? w _ hx174_0)).trans hx174_0
                                replace p174 := eq_true p174
                                replace q174 := eq_true q174
                                have p15 : 0 ≤ ((ji12) : Int) := of_decide_eq_true (by first | (with_reducible assumption) | assumption)
                                have q15 : (ji12) < (L4.size : Int) := of_decide_eq_true (by first | (with_reducible assumption) | assumption)
                                have hx15 := bt_at L4 (ji12)
                                replace p15 := eq_true p15
                                replace q15 := eq_true q15
                                go_wp2_with (first | ((with_reducible refine gate_dst (N := 34) rfl ?_); (try (refine gate_guard (by rfl) ?_; dsimp only)); refine Kd.R_lit (Kd.int .u8) _ 5 ?hg (N := 34) ?hd (xs := ([bt L4 (ji12)] : List Int)) (inner := [.int .u8 (bt L4 (ji12))]) (ok := fun _ => True) (okp := fun _ => True) ?hr ?hp (fun _ hk => hk) trivial (Below.refl _ _) (Nat.le_refl _) (by simp) ?_; (case hd => rfl); (case hg => rfl); (case hr => first | (go_simp; done) | (go_simp; rfl)); (case hp => exact (Reps.one (show Kd.M (Kd.int .u8) _ _ _ (bt L4 (ji12)) [.int .u8 (bt L4 (ji12))] from rfl) (Reps.none _ _))); intro v176 w39 ho40 hb hg_ hnew_; clear hg_ hnew_; (first | rw [← Ny175.out] at ho40 | (simp only [Int.reduceToNat] at ho40; rw [← Ny175.out] at ho40)); have n0_ := Aside0.mk (Kd.R_lower ho40 (below_size (by repeat (first | (with_reducible first | exact HB.out | apply below_alloc | apply pw_below_drewN | apply below_drew1) | exact HB.out)))); have n1_ := Aside0.mk (below_step (by repeat (first | (with_reducible first | exact HB.out | apply below_alloc | apply pw_below_drewN | apply below_drew1) | exact HB.out)) hb); clear HB; have HO177 := n0_; have HB := n1_; clear n0_ n1_; clear hb ho40; have hcv41 := own_string (P := Tryd.prog) Tryd.underlying35 Tryd.underlying5 Tryd.underlying9 (Kd.own_of_R HO177.out)))
                                go_roundg k1
                                case measure => have := HK1.out; omega
                                case rel => exact ⟨(x5_1 ++ (strOfNums y175)), (false), (wrap64 (x20_1 + 1)), (by first | rfl | (simp; done) | (simp [*]; done)), (by first | rfl | (simp; done) | (simp [*]; done)), (by first | rfl | (simp; done) | (simp [*]; done)), H', ⟨by have := HK1.out; omega⟩, ⟨by repeat (first | (with_reducible first | exact HB.out | apply below_alloc | apply pw_below_drewN | apply below_drew1) | exact HB.out)⟩⟩
                            · rw [if_neg c34] at H
                              have c34b0 : (x20_1 == 0) = false := beq_eq_false_iff_ne.mpr c34
                              have c34b1 : (x20_1 != 0) = true := bne_iff_ne.mpr c34
                              have H' := Aside0.mk H
                              clear H
                              have p174 : 0 ≤ (x20_1 : Int) := of_decide_eq_true (by first | (with_reducible assumption) | assumption)
                              have q174 : x20_1 < ((l0.take ((ji3) : Int).toNat).length : Int) := of_decide_eq_true (by first | (with_reducible assumption) | assumption)
                              obtain ⟨ad174, e174, hx174_0⟩ := Kd.at_int HR173.out x20_1 p174 q174
                              cases e174
                              replace hx174_0 := (HB.out.cell (World.block_lt_of_cell? w _ hx174_0)).trans hx174_0
                              replace p174 := eq_true p174
                              replace q174 := eq_true q174
                              have p15 : 0 ≤ ((ji12) : Int) := of_decide_eq_true (by first | (with_reducible assumption) | assumption)
                              have q15 : (ji12) < (L4.size : Int) := of_decide_eq_true (by first | (with_reducible assumption) | assumption)
                              have hx15 := bt_at L4 (ji12)
                              replace p15 := eq_true p15
                              replace q15 := eq_true q15
                              go_wp2_with (first | ((with_reducible refine gate_dst (N := 34) rfl ?_); (try (refine gate_guard (by rfl) ?_; dsimp only)); refine Kd.R_lit (Kd.int .u8) _ 5 ?hg (N := 34) ?hd (xs := ([bt L4 (ji12)] : List Int)) (inner := [.int .u8 (bt L4 (ji12))]) (ok := fun _ => True) (okp := fun _ => True) ?hr ?hp (fun _ hk => hk) trivial (Below.refl _ _) (Nat.le_refl _) (by simp) ?_; (case hd => rfl); (case hg => rfl); (case hr => first | (go_simp; done) | (go_simp; rfl)); (case hp => exact (Reps.one (show Kd.M (Kd.int .u8) _ _ _ (bt L4 (ji12)) [.int .u8 (bt L4 (ji12))] from rfl) (Reps.none _ _))); intro v176 w42 ho43 hb hg_ hnew_; clear hg_ hnew_; (first | rw [← Ny175.out] at ho43 | (simp only [Int.reduceToNat] at ho43; rw [← Ny175.out] at ho43)); have n0_ := Aside0.mk (Kd.R_lower ho43 (below_size (by repeat (first | (with_reducible first | exact HB.out | apply below_alloc | apply pw_below_drewN | apply below_drew1) | exact HB.out)))); have n1_ := Aside0.mk (below_step (by repeat (first | (with_reducible first | exact HB.out | apply below_alloc | apply pw_below_drewN | apply below_drew1) | exact HB.out)) hb); clear HB; have HO177 := n0_; have HB := n1_; clear n0_ n1_; clear hb ho43; have hcv44 := own_string (P := Tryd.prog) Tryd.underlying35 Tryd.underlying5 Tryd.underlying9 (Kd.own_of_R HO177.out)))
                              go_roundg k1
                              case measure => have := HK1.out; omega
                              case rel => exact ⟨(x5_1 ++ (strOfNums y175)), (false), (wrap64 (x20_1 + 1)), (by first | rfl | (simp; done) | (simp [*]; done)), (by first | rfl | (simp; done) | (simp [*]; done)), (by first | rfl | (simp; done) | (simp [*]; done)), H', ⟨by have := HK1.out; omega⟩, ⟨by repeat (first | (with_reducible first | exact HB.out | apply below_alloc | apply pw_below_drewN | apply below_drew1) | exact HB.out)⟩⟩
                        · replace c17 := Bool.eq_false_iff.mpr c17
                          subst c17
                          have H1 : (eddywheellaw05_LexNames.l0 k1 l0 t172 L4 (x5_1 ++ (strOfNums y175)) false (l0.take ((ji3) : Int).toNat) ((l0.take ((ji3) : Int).toNat).length : Int) (wrap64 (x20_1 + 1))) = some r := by rw [if_neg (show ¬ (false = true) by decide)] at H; exact H
                          clear H
                          have H := H1
                          clear H1
                          have H' := Aside0.mk H
                          clear H
                          have p174 : 0 ≤ (x20_1 : Int) := of_decide_eq_true (by first | (with_reducible assumption) | assumption)
                          have q174 : x20_1 < ((l0.take ((ji3) : Int).toNat).length : Int) := of_decide_eq_true (by first | (with_reducible assumption) | assumption)
                          obtain ⟨ad174, e174, hx174_0⟩ := Kd.at_int HR173.out x20_1 p174 q174
                          cases e174
                          replace hx174_0 := (HB.out.cell (World.block_lt_of_cell? w _ hx174_0)).trans hx174_0
                          replace p174 := eq_true p174
                          replace q174 := eq_true q174
                          have p15 : 0 ≤ ((ji12) : Int) := of_decide_eq_true (by first | (with_reducible assumption) | assumption)
                          have q15 : (ji12) < (L4.size : Int) := of_decide_eq_true (by first | (with_reducible assumption) | assumption)
                          have hx15 := bt_at L4 (ji12)
                          replace p15 := eq_true p15
                          replace q15 := eq_true q15
                          go_wp2_with (first | ((with_reducible refine gate_dst (N := 34) rfl ?_); (try (refine gate_guard (by rfl) ?_; dsimp only)); refine Kd.R_lit (Kd.int .u8) _ 5 ?hg (N := 34) ?hd (xs := ([bt L4 (ji12)] : List Int)) (inner := [.int .u8 (bt L4 (ji12))]) (ok := fun _ => True) (okp := fun _ => True) ?hr ?hp (fun _ hk => hk) trivial (Below.refl _ _) (Nat.le_refl _) (by simp) ?_; (case hd => rfl); (case hg => rfl); (case hr => first | (go_simp; done) | (go_simp; rfl)); (case hp => exact (Reps.one (show Kd.M (Kd.int .u8) _ _ _ (bt L4 (ji12)) [.int .u8 (bt L4 (ji12))] from rfl) (Reps.none _ _))); intro v176 w45 ho46 hb hg_ hnew_; clear hg_ hnew_; (first | rw [← Ny175.out] at ho46 | (simp only [Int.reduceToNat] at ho46; rw [← Ny175.out] at ho46)); have n0_ := Aside0.mk (Kd.R_lower ho46 (below_size (by repeat (first | (with_reducible first | exact HB.out | apply below_alloc | apply pw_below_drewN | apply below_drew1) | exact HB.out)))); have n1_ := Aside0.mk (below_step (by repeat (first | (with_reducible first | exact HB.out | apply below_alloc | apply pw_below_drewN | apply below_drew1) | exact HB.out)) hb); clear HB; have HO177 := n0_; have HB := n1_; clear n0_ n1_; clear hb ho46; have hcv47 := own_string (P := Tryd.prog) Tryd.underlying35 Tryd.underlying5 Tryd.underlying9 (Kd.own_of_R HO177.out)))
                          go_roundg k1
                          case measure => have := HK1.out; omega
                          case rel => exact ⟨(x5_1 ++ (strOfNums y175)), (false), (wrap64 (x20_1 + 1)), (by first | rfl | (simp; done) | (simp [*]; done)), (by first | rfl | (simp; done) | (simp [*]; done)), (by first | rfl | (simp; done) | (simp [*]; done)), H', ⟨by have := HK1.out; omega⟩, ⟨by repeat (first | (with_reducible first | exact HB.out | apply below_alloc | apply pw_below_drewN | apply below_drew1) | exact HB.out)⟩⟩
                      · rw [if_neg c16] at H
                        exact absurd H (by simp)
                    · rw [if_neg c14] at H
                      exact absurd H (by simp)
                  · rw [if_neg c13] at H
                    exact absurd H (by simp)
              · rw [if_neg c10] at H
                exact absurd H (by simp)
            · rw [if_neg c9] at H
              exact absurd H (by simp)
          · rw [if_neg c8] at H
            have c8b0 : decide (x20_1 < ((l0.take ((ji3) : Int).toNat).length : Int)) = false := decide_eq_false c8
            have c8m : decide (x20_1 < max ji3 0) = false := by have h_ := of_decide_eq_false c8b0; apply decide_eq_false; rw [List.length_take] at h_; split at hji3_ <;> omega
            clear c8
            replace H := Option.bind_eq_some_iff.mp H
            obtain ⟨⟨t178, t179, t180⟩, A480, H⟩ := H
            replace H : (if x5_1.toList = ([] : List UInt8) then (if t172 = true then (if t180 = 0 then (some ((t178.length : Int) == 0)) else (some false)) else (some false)) else (if x6_1 = true then (if t172 = true then (if t180 = 0 then (if (t178.length : Int) = 1 then (if 0 < (t178.length : Int) then (if ((rd_T30 t178 0).f0) = 4 then (some true) else (if t180 = 51 then (if t179 = 0 then (some (decide ((x5_1.size : Int) > 12))) else (some false)) else (some false))) else (none)) else (if t180 = 51 then (if t179 = 0 then (some (decide ((x5_1.size : Int) > 12))) else (some false)) else (some false))) else (if t180 = 51 then (if t179 = 0 then (some (decide ((x5_1.size : Int) > 12))) else (some false)) else (some false))) else (some false)) else (if (x5_1.size : Int) > 32 then (if t172 = true then (if t180 = 3 then (if t179 = 0 then (some ((t178.length : Int) == 0)) else (some false)) else (some false)) else (some false)) else (if t172 = true then (if t180 = 0 then (if (t178.length : Int) = 1 then (if 0 < (t178.length : Int) then (some (((rd_T30 t178 0).f0) == 6 && (((rd_T30 t178 0).f1) == 0 && (((rd_T30 t178 0).f2) == 0 && ((((rd_T30 t178 0).f3).toList) == x5_1.toList))))) else (none)) else (some false)) else (some false)) else (some false))))) = some r := H
            have A48 := Aside0.mk A480
            clear A480
            by_cases c49 : x5_1.toList = ([] : List UInt8)
            · rw [if_pos c49] at H
              have c49b0 : (x5_1.toList == ([] : List UInt8)) = true := beq_iff_eq.mpr c49
              have c49b1 : (x5_1.toList != ([] : List UInt8)) = false := bne_eq_false_iff_eq.mpr c49
              clear c49
              by_cases c50 : t172 = true
              · subst c50
                have H1 : (if t180 = 0 then (some ((t178.length : Int) == 0)) else (some false)) = some r := by rw [if_pos rfl] at H; exact H
                clear H
                have H := H1
                clear H1
                by_cases c51 : t180 = 0
                · rw [if_pos c51] at H
                  have c51b0 : (t180 == 0) = true := beq_iff_eq.mpr c51
                  have c51b1 : (t180 != 0) = false := bne_eq_false_iff_eq.mpr c51
                  clear c51
                  obtain rfl := Option.some.inj H
                  go_wp2_with (first | ((with_reducible refine gate_callee (f := 17) rfl ?_); refine goesL_ (some 62) rfl rfl Tryd.func17 (by kernel_rfl) rfl #[.string x5_1] rfl (by (try simp only [List.map_toArray, List.map_cons, List.map_nil]); first | done | rfl | (simp only [List.length_drop, List.length_take]; rfl)) ?_; (with_reducible refine (lexC.calls x5_1 t178 t179 t180 _ ?side1 A48.out).mono ?_); (case side1 => exact GoodW.below HG.out (by repeat (first | (with_reducible first | exact HB.out | apply below_alloc | apply pw_below_drewN | apply below_drew1) | exact HB.out))); rintro e w52 ⟨v181, rfl, ho0, hb⟩; refine ⟨_, rfl, ?_⟩; have n0_ := Aside0.mk (Kd.R_lower ho0 (below_size (by repeat (first | (with_reducible first | exact HB.out | apply below_alloc | apply pw_below_drewN | apply below_drew1) | exact HB.out)))); have n1_ := Aside0.mk (below_step (by repeat (first | (with_reducible first | exact HB.out | apply below_alloc | apply pw_below_drewN | apply below_drew1) | exact HB.out)) hb); clear HB; have HO182 := n0_; have HB := n1_; clear n0_ n1_; (try clear hb); (try clear hb2); (try clear hk); (try clear hi); (try clear ho0); obtain ⟨Ao53, co53, eo53⟩ := Kd.R_slice HO182.out; subst eo53))
                  go_ret
                  exact ⟨by first | rfl | (simp [errW_none, errW_some] <;> rfl) | (simp only [← hji3]; first | rfl | (simp [errW_none, errW_some] <;> rfl)) | (simp [*, errW_none, errW_some] <;> rfl), by repeat (first | (with_reducible first | exact HB.out | apply below_alloc | apply pw_below_drewN | apply below_drew1) | exact HB.out)⟩
                · rw [if_neg c51] at H
                  have c51b0 : (t180 == 0) = false := beq_eq_false_iff_ne.mpr c51
                  have c51b1 : (t180 != 0) = true := bne_iff_ne.mpr c51
                  obtain rfl := Option.some.inj H
                  go_wp2_with (first | ((with_reducible refine gate_callee (f := 17) rfl ?_); refine goesL_ (some 62) rfl rfl Tryd.func17 (by kernel_rfl) rfl #[.string x5_1] rfl (by (try simp only [List.map_toArray, List.map_cons, List.map_nil]); first | done | rfl | (simp only [List.length_drop, List.length_take]; rfl)) ?_; (with_reducible refine (lexC.calls x5_1 t178 t179 t180 _ ?side1 A48.out).mono ?_); (case side1 => exact GoodW.below HG.out (by repeat (first | (with_reducible first | exact HB.out | apply below_alloc | apply pw_below_drewN | apply below_drew1) | exact HB.out))); rintro e w54 ⟨v181, rfl, ho0, hb⟩; refine ⟨_, rfl, ?_⟩; have n0_ := Aside0.mk (Kd.R_lower ho0 (below_size (by repeat (first | (with_reducible first | exact HB.out | apply below_alloc | apply pw_below_drewN | apply below_drew1) | exact HB.out)))); have n1_ := Aside0.mk (below_step (by repeat (first | (with_reducible first | exact HB.out | apply below_alloc | apply pw_below_drewN | apply below_drew1) | exact HB.out)) hb); clear HB; have HO182 := n0_; have HB := n1_; clear n0_ n1_; (try clear hb); (try clear hb2); (try clear hk); (try clear hi); (try clear ho0)))
                  go_ret
                  exact ⟨by first | rfl | (simp [errW_none, errW_some] <;> rfl) | (simp only [← hji3]; first | rfl | (simp [errW_none, errW_some] <;> rfl)) | (simp [*, errW_none, errW_some] <;> rfl), by repeat (first | (with_reducible first | exact HB.out | apply below_alloc | apply pw_below_drewN | apply below_drew1) | exact HB.out)⟩
              · replace c50 := Bool.eq_false_iff.mpr c50
                subst c50
                have H1 : (some false) = some r := by rw [if_neg (show ¬ (false = true) by decide)] at H; exact H
                clear H
                have H := H1
                clear H1
                obtain rfl := Option.some.inj H
                go_wp2_with (first | ((with_reducible refine gate_callee (f := 17) rfl ?_); refine goesL_ (some 62) rfl rfl Tryd.func17 (by kernel_rfl) rfl #[.string x5_1] rfl (by (try simp only [List.map_toArray, List.map_cons, List.map_nil]); first | done | rfl | (simp only [List.length_drop, List.length_take]; rfl)) ?_; (with_reducible refine (lexC.calls x5_1 t178 t179 t180 _ ?side1 A48.out).mono ?_); (case side1 => exact GoodW.below HG.out (by repeat (first | (with_reducible first | exact HB.out | apply below_alloc | apply pw_below_drewN | apply below_drew1) | exact HB.out))); rintro e w55 ⟨v181, rfl, ho0, hb⟩; refine ⟨_, rfl, ?_⟩; have n0_ := Aside0.mk (Kd.R_lower ho0 (below_size (by repeat (first | (with_reducible first | exact HB.out | apply below_alloc | apply pw_below_drewN | apply below_drew1) | exact HB.out)))); have n1_ := Aside0.mk (below_step (by repeat (first | (with_reducible first | exact HB.out | apply below_alloc | apply pw_below_drewN | apply below_drew1) | exact HB.out)) hb); clear HB; have HO182 := n0_; have HB := n1_; clear n0_ n1_; (try clear hb); (try clear hb2); (try clear hk); (try clear hi); (try clear ho0)))
                go_ret
                exact ⟨by first | rfl | (simp [errW_none, errW_some] <;> rfl) | (simp only [← hji3]; first | rfl | (simp [errW_none, errW_some] <;> rfl)) | (simp [*, errW_none, errW_some] <;> rfl), by repeat (first | (with_reducible first | exact HB.out | apply below_alloc | apply pw_below_drewN | apply below_drew1) | exact HB.out)⟩
            · rw [if_neg c49] at H
              have c49b0 : (x5_1.toList == ([] : List UInt8)) = false := beq_eq_false_iff_ne.mpr c49
              have c49b1 : (x5_1.toList != ([] : List UInt8)) = true := bne_iff_ne.mpr c49
              by_cases c56 : x6_1 = true
              · subst c56
                have H1 : (if t172 = true then (if t180 = 0 then (if (t178.length : Int) = 1 then (if 0 < (t178.length : Int) then (if ((rd_T30 t178 0).f0) = 4 then (some true) else (if t180 = 51 then (if t179 = 0 then (some (decide ((x5_1.size : Int) > 12))) else (some false)) else (some false))) else (none)) else (if t180 = 51 then (if t179 = 0 then (some (decide ((x5_1.size : Int) > 12))) else (some false)) else (some false))) else (if t180 = 51 then (if t179 = 0 then (some (decide ((x5_1.size : Int) > 12))) else (some false)) else (some false))) else (some false)) = some r := by rw [if_pos rfl] at H; exact H
                clear H
                have H := H1
                clear H1
                by_cases c57 : t172 = true
                · subst c57
                  have H1 : (if t180 = 0 then (if (t178.length : Int) = 1 then (if 0 < (t178.length : Int) then (if ((rd_T30 t178 0).f0) = 4 then (some true) else (if t180 = 51 then (if t179 = 0 then (some (decide ((x5_1.size : Int) > 12))) else (some false)) else (some false))) else (none)) else (if t180 = 51 then (if t179 = 0 then (some (decide ((x5_1.size : Int) > 12))) else (some false)) else (some false))) else (if t180 = 51 then (if t179 = 0 then (some (decide ((x5_1.size : Int) > 12))) else (some false)) else (some false))) = some r := by rw [if_pos rfl] at H; exact H
                  clear H
                  have H := H1
                  clear H1
                  by_cases c58 : t180 = 0
                  · rw [if_pos c58] at H
                    have c58b0 : (t180 == 0) = true := beq_iff_eq.mpr c58
                    have c58b1 : (t180 != 0) = false := bne_eq_false_iff_eq.mpr c58
                    clear c58
                    by_cases c59 : (t178.length : Int) = 1
                    · rw [if_pos c59] at H
                      have c59b0 : ((t178.length : Int) == 1) = true := beq_iff_eq.mpr c59
                      have c59b1 : ((t178.length : Int) != 1) = false := bne_eq_false_iff_eq.mpr c59
                      clear c59
                      by_cases c60 : 0 < (t178.length : Int)
                      · rw [if_pos c60] at H
                        have c60b0 : decide (0 < (t178.length : Int)) = true := decide_eq_true c60
                        have c60b1 : decide (0 < t178.length) = true := decide_eq_true (by omega)
                        clear c60
                        by_cases c61 : ((rd_T30 t178 0).f0) = 4
                        · rw [if_pos c61] at H
                          have c61b0 : (((rd_T30 t178 0).f0) == 4) = true := beq_iff_eq.mpr c61
                          have c61b1 : (((rd_T30 t178 0).f0) != 4) = false := bne_eq_false_iff_eq.mpr c61
                          clear c61
                          obtain rfl := Option.some.inj H
                          go_wp2_with (first | ((with_reducible refine gate_callee (f := 17) rfl ?_); refine goesL_ (some 62) rfl rfl Tryd.func17 (by kernel_rfl) rfl #[.string x5_1] rfl (by (try simp only [List.map_toArray, List.map_cons, List.map_nil]); first | done | rfl | (simp only [List.length_drop, List.length_take]; rfl)) ?_; (with_reducible refine (lexC.calls x5_1 t178 t179 t180 _ ?side1 A48.out).mono ?_); (case side1 => exact GoodW.below HG.out (by repeat (first | (with_reducible first | exact HB.out | apply below_alloc | apply pw_below_drewN | apply below_drew1) | exact HB.out))); rintro e w62 ⟨v181, rfl, ho0, hb⟩; refine ⟨_, rfl, ?_⟩; have n0_ := Aside0.mk (Kd.R_lower ho0 (below_size (by repeat (first | (with_reducible first | exact HB.out | apply below_alloc | apply pw_below_drewN | apply below_drew1) | exact HB.out)))); have n1_ := Aside0.mk (below_step (by repeat (first | (with_reducible first | exact HB.out | apply below_alloc | apply pw_below_drewN | apply below_drew1) | exact HB.out)) hb); clear HB; have HO182 := n0_; have HB := n1_; clear n0_ n1_; (try clear hb); (try clear hb2); (try clear hk); (try clear hi); (try clear ho0); obtain ⟨Ao63, co63, eo63⟩ := Kd.R_slice HO182.out; subst eo63; have p183 : 0 ≤ (0 : Int) := (by omega); have q183 : 0 < (t178.length : Int) := of_decide_eq_true (by first | (with_reducible assumption) | assumption); obtain ⟨ad183, e183, hx183_0, hx183_1, hx183_2, hx183_3⟩ := at_T30 (Kd.R_reads' HO182.out).2.2 0 p183 q183; cases e183; have qi183 : (0 < t178.length) = True := eq_true (by omega); (try rw [show ((0 : Int)).toNat = 0 from rfl] at hx183_0); (try rw [show 0 * 4 = 0 from rfl] at hx183_0); (try rw [Addr.add_zero'] at hx183_0); (try rw [show ((0 : Int)).toNat = 0 from rfl] at hx183_1); (try rw [show 0 * 4 = 0 from rfl] at hx183_1); (try rw [Addr.add_zero'] at hx183_1); (try rw [show ((0 : Int)).toNat = 0 from rfl] at hx183_2); (try rw [show 0 * 4 = 0 from rfl] at hx183_2); (try rw [Addr.add_zero'] at hx183_2); (try rw [show ((0 : Int)).toNat = 0 from rfl] at hx183_3); (try rw [show 0 * 4 = 0 from rfl] at hx183_3); (try rw [Addr.add_zero'] at hx183_3); replace p183 := eq_true p183; replace q183 := eq_true q183))
                          go_ret
                          exact ⟨by first | rfl | (simp [errW_none, errW_some] <;> rfl) | (simp only [← hji3]; first | rfl | (simp [errW_none, errW_some] <;> rfl)) | (simp [*, errW_none, errW_some] <;> rfl), by repeat (first | (with_reducible first | exact HB.out | apply below_alloc | apply pw_below_drewN | apply below_drew1) | exact HB.out)⟩
                        · rw [if_neg c61] at H
                          have c61b0 : (((rd_T30 t178 0).f0) == 4) = false := beq_eq_false_iff_ne.mpr c61
                          have c61b1 : (((rd_T30 t178 0).f0) != 4) = true := bne_iff_ne.mpr c61
                          by_cases c64 : t180 = 51
                          · rw [if_pos c64] at H
                            have c64b0 : (t180 == 51) = true := beq_iff_eq.mpr c64
                            have c64b1 : (t180 != 51) = false := bne_eq_false_iff_eq.mpr c64
                            clear c64
                            by_cases c65 : t179 = 0
                            · rw [if_pos c65] at H
                              have c65b0 : (t179 == 0) = true := beq_iff_eq.mpr c65
                              have c65b1 : (t179 != 0) = false := bne_eq_false_iff_eq.mpr c65
                              clear c65
                              obtain rfl := Option.some.inj H
                              go_wp2_with (first | ((with_reducible refine gate_callee (f := 17) rfl ?_); refine goesL_ (some 62) rfl rfl Tryd.func17 (by kernel_rfl) rfl #[.string x5_1] rfl (by (try simp only [List.map_toArray, List.map_cons, List.map_nil]); first | done | rfl | (simp only [List.length_drop, List.length_take]; rfl)) ?_; (with_reducible refine (lexC.calls x5_1 t178 t179 t180 _ ?side1 A48.out).mono ?_); (case side1 => exact GoodW.below HG.out (by repeat (first | (with_reducible first | exact HB.out | apply below_alloc | apply pw_below_drewN | apply below_drew1) | exact HB.out))); rintro e w66 ⟨v181, rfl, ho0, hb⟩; refine ⟨_, rfl, ?_⟩; have n0_ := Aside0.mk (Kd.R_lower ho0 (below_size (by repeat (first | (with_reducible first | exact HB.out | apply below_alloc | apply pw_below_drewN | apply below_drew1) | exact HB.out)))); have n1_ := Aside0.mk (below_step (by repeat (first | (with_reducible first | exact HB.out | apply below_alloc | apply pw_below_drewN | apply below_drew1) | exact HB.out)) hb); clear HB; have HO182 := n0_; have HB := n1_; clear n0_ n1_; (try clear hb); (try clear hb2); (try clear hk); (try clear hi); (try clear ho0); obtain ⟨Ao67, co67, eo67⟩ := Kd.R_slice HO182.out; subst eo67; have p183 : 0 ≤ (0 : Int) := (by omega); have q183 : 0 < (t178.length : Int) := of_decide_eq_true (by first | (with_reducible assumption) | assumption); obtain ⟨ad183, e183, hx183_0, hx183_1, hx183_2, hx183_3⟩ := at_T30 (Kd.R_reads' HO182.out).2.2 0 p183 q183; cases e183; have qi183 : (0 < t178.length) = True := eq_true (by omega); (try rw [show ((0 : Int)).toNat = 0 from rfl] at hx183_0); (try rw [show 0 * 4 = 0 from rfl] at hx183_0); (try rw [Addr.add_zero'] at hx183_0); (try rw [show ((0 : Int)).toNat = 0 from rfl] at hx183_1); (try rw [show 0 * 4 = 0 from rfl] at hx183_1); (try rw [Addr.add_zero'] at hx183_1); (try rw [show ((0 : Int)).toNat = 0 from rfl] at hx183_2); (try rw [show 0 * 4 = 0 from rfl] at hx183_2); (try rw [Addr.add_zero'] at hx183_2); (try rw [show ((0 : Int)).toNat = 0 from rfl] at hx183_3); (try rw [show 0 * 4 = 0 from rfl] at hx183_3); (try rw [Addr.add_zero'] at hx183_3); replace p183 := eq_true p183; replace q183 := eq_true q183))
                              go_ret
                              exact ⟨by first | rfl | (simp [errW_none, errW_some] <;> rfl) | (simp only [← hji3]; first | rfl | (simp [errW_none, errW_some] <;> rfl)) | (simp [*, errW_none, errW_some] <;> rfl), by repeat (first | (with_reducible first | exact HB.out | apply below_alloc | apply pw_below_drewN | apply below_drew1) | exact HB.out)⟩
                            · rw [if_neg c65] at H
                              have c65b0 : (t179 == 0) = false := beq_eq_false_iff_ne.mpr c65
                              have c65b1 : (t179 != 0) = true := bne_iff_ne.mpr c65
                              obtain rfl := Option.some.inj H
                              go_wp2_with (first | ((with_reducible refine gate_callee (f := 17) rfl ?_); refine goesL_ (some 62) rfl rfl Tryd.func17 (by kernel_rfl) rfl #[.string x5_1] rfl (by (try simp only [List.map_toArray, List.map_cons, List.map_nil]); first | done | rfl | (simp only [List.length_drop, List.length_take]; rfl)) ?_; (with_reducible refine (lexC.calls x5_1 t178 t179 t180 _ ?side1 A48.out).mono ?_); (case side1 => exact GoodW.below HG.out (by repeat (first | (with_reducible first | exact HB.out | apply below_alloc | apply pw_below_drewN | apply below_drew1) | exact HB.out))); rintro e w68 ⟨v181, rfl, ho0, hb⟩; refine ⟨_, rfl, ?_⟩; have n0_ := Aside0.mk (Kd.R_lower ho0 (below_size (by repeat (first | (with_reducible first | exact HB.out | apply below_alloc | apply pw_below_drewN | apply below_drew1) | exact HB.out)))); have n1_ := Aside0.mk (below_step (by repeat (first | (with_reducible first | exact HB.out | apply below_alloc | apply pw_below_drewN | apply below_drew1) | exact HB.out)) hb); clear HB; have HO182 := n0_; have HB := n1_; clear n0_ n1_; (try clear hb); (try clear hb2); (try clear hk); (try clear hi); (try clear ho0); obtain ⟨Ao69, co69, eo69⟩ := Kd.R_slice HO182.out; subst eo69; have p183 : 0 ≤ (0 : Int) := (by omega); have q183 : 0 < (t178.length : Int) := of_decide_eq_true (by first | (with_reducible assumption) | assumption); obtain ⟨ad183, e183, hx183_0, hx183_1, hx183_2, hx183_3⟩ := at_T30 (Kd.R_reads' HO182.out).2.2 0 p183 q183; cases e183; have qi183 : (0 < t178.length) = True := eq_true (by omega); (try rw [show ((0 : Int)).toNat = 0 from rfl] at hx183_0); (try rw [show 0 * 4 = 0 from rfl] at hx183_0); (try rw [Addr.add_zero'] at hx183_0); (try rw [show ((0 : Int)).toNat = 0 from rfl] at hx183_1); (try rw [show 0 * 4 = 0 from rfl] at hx183_1); (try rw [Addr.add_zero'] at hx183_1); (try rw [show ((0 : Int)).toNat = 0 from rfl] at hx183_2); (try rw [show 0 * 4 = 0 from rfl] at hx183_2); (try rw [Addr.add_zero'] at hx183_2); (try rw [show ((0 : Int)).toNat = 0 from rfl] at hx183_3); (try rw [show 0 * 4 = 0 from rfl] at hx183_3); (try rw [Addr.add_zero'] at hx183_3); replace p183 := eq_true p183; replace q183 := eq_true q183))
                              go_ret
                              exact ⟨by first | rfl | (simp [errW_none, errW_some] <;> rfl) | (simp only [← hji3]; first | rfl | (simp [errW_none, errW_some] <;> rfl)) | (simp [*, errW_none, errW_some] <;> rfl), by repeat (first | (with_reducible first | exact HB.out | apply below_alloc | apply pw_below_drewN | apply below_drew1) | exact HB.out)⟩
                          · rw [if_neg c64] at H
                            have c64b0 : (t180 == 51) = false := beq_eq_false_iff_ne.mpr c64
                            have c64b1 : (t180 != 51) = true := bne_iff_ne.mpr c64
                            obtain rfl := Option.some.inj H
                            go_wp2_with (first | ((with_reducible refine gate_callee (f := 17) rfl ?_); refine goesL_ (some 62) rfl rfl Tryd.func17 (by kernel_rfl) rfl #[.string x5_1] rfl (by (try simp only [List.map_toArray, List.map_cons, List.map_nil]); first | done | rfl | (simp only [List.length_drop, List.length_take]; rfl)) ?_; (with_reducible refine (lexC.calls x5_1 t178 t179 t180 _ ?side1 A48.out).mono ?_); (case side1 => exact GoodW.below HG.out (by repeat (first | (with_reducible first | exact HB.out | apply below_alloc | apply pw_below_drewN | apply below_drew1) | exact HB.out))); rintro e w70 ⟨v181, rfl, ho0, hb⟩; refine ⟨_, rfl, ?_⟩; have n0_ := Aside0.mk (Kd.R_lower ho0 (below_size (by repeat (first | (with_reducible first | exact HB.out | apply below_alloc | apply pw_below_drewN | apply below_drew1) | exact HB.out)))); have n1_ := Aside0.mk (below_step (by repeat (first | (with_reducible first | exact HB.out | apply below_alloc | apply pw_below_drewN | apply below_drew1) | exact HB.out)) hb); clear HB; have HO182 := n0_; have HB := n1_; clear n0_ n1_; (try clear hb); (try clear hb2); (try clear hk); (try clear hi); (try clear ho0); obtain ⟨Ao71, co71, eo71⟩ := Kd.R_slice HO182.out; subst eo71; have p183 : 0 ≤ (0 : Int) := (by omega); have q183 : 0 < (t178.length : Int) := of_decide_eq_true (by first | (with_reducible assumption) | assumption); obtain ⟨ad183, e183, hx183_0, hx183_1, hx183_2, hx183_3⟩ := at_T30 (Kd.R_reads' HO182.out).2.2 0 p183 q183; cases e183; have qi183 : (0 < t178.length) = True := eq_true (by omega); (try rw [show ((0 : Int)).toNat = 0 from rfl] at hx183_0); (try rw [show 0 * 4 = 0 from rfl] at hx183_0); (try rw [Addr.add_zero'] at hx183_0); (try rw [show ((0 : Int)).toNat = 0 from rfl] at hx183_1); (try rw [show 0 * 4 = 0 from rfl] at hx183_1); (try rw [Addr.add_zero'] at hx183_1); (try rw [show ((0 : Int)).toNat = 0 from rfl] at hx183_2); (try rw [show 0 * 4 = 0 from rfl] at hx183_2); (try rw [Addr.add_zero'] at hx183_2); (try rw [show ((0 : Int)).toNat = 0 from rfl] at hx183_3); (try rw [show 0 * 4 = 0 from rfl] at hx183_3); (try rw [Addr.add_zero'] at hx183_3); replace p183 := eq_true p183; replace q183 := eq_true q183))
                            go_ret
                            exact ⟨by first | rfl | (simp [errW_none, errW_some] <;> rfl) | (simp only [← hji3]; first | rfl | (simp [errW_none, errW_some] <;> rfl)) | (simp [*, errW_none, errW_some] <;> rfl), by repeat (first | (with_reducible first | exact HB.out | apply below_alloc | apply pw_below_drewN | apply below_drew1) | exact HB.out)⟩
                      · rw [if_neg c60] at H
                        exact absurd H (by simp)
                    · rw [if_neg c59] at H
                      have c59b0 : ((t178.length : Int) == 1) = false := beq_eq_false_iff_ne.mpr c59
                      have c59b1 : ((t178.length : Int) != 1) = true := bne_iff_ne.mpr c59
                      by_cases c72 : t180 = 51
                      · rw [if_pos c72] at H
                        have c72b0 : (t180 == 51) = true := beq_iff_eq.mpr c72
                        have c72b1 : (t180 != 51) = false := bne_eq_false_iff_eq.mpr c72
                        clear c72
                        by_cases c73 : t179 = 0
                        · rw [if_pos c73] at H
                          have c73b0 : (t179 == 0) = true := beq_iff_eq.mpr c73
                          have c73b1 : (t179 != 0) = false := bne_eq_false_iff_eq.mpr c73
                          clear c73
                          obtain rfl := Option.some.inj H
                          go_wp2_with (first | ((with_reducible refine gate_callee (f := 17) rfl ?_); refine goesL_ (some 62) rfl rfl Tryd.func17 (by kernel_rfl) rfl #[.string x5_1] rfl (by (try simp only [List.map_toArray, List.map_cons, List.map_nil]); first | done | rfl | (simp only [List.length_drop, List.length_take]; rfl)) ?_; (with_reducible refine (lexC.calls x5_1 t178 t179 t180 _ ?side1 A48.out).mono ?_); (case side1 => exact GoodW.below HG.out (by repeat (first | (with_reducible first | exact HB.out | apply below_alloc | apply pw_below_drewN | apply below_drew1) | exact HB.out))); rintro e w74 ⟨v181, rfl, ho0, hb⟩; refine ⟨_, rfl, ?_⟩; have n0_ := Aside0.mk (Kd.R_lower ho0 (below_size (by repeat (first | (with_reducible first | exact HB.out | apply below_alloc | apply pw_below_drewN | apply below_drew1) | exact HB.out)))); have n1_ := Aside0.mk (below_step (by repeat (first | (with_reducible first | exact HB.out | apply below_alloc | apply pw_below_drewN | apply below_drew1) | exact HB.out)) hb); clear HB; have HO182 := n0_; have HB := n1_; clear n0_ n1_; (try clear hb); (try clear hb2); (try clear hk); (try clear hi); (try clear ho0); obtain ⟨Ao75, co75, eo75⟩ := Kd.R_slice HO182.out; subst eo75))
                          go_ret
                          exact ⟨by first | rfl | (simp [errW_none, errW_some] <;> rfl) | (simp only [← hji3]; first | rfl | (simp [errW_none, errW_some] <;> rfl)) | (simp [*, errW_none, errW_some] <;> rfl), by repeat (first | (with_reducible first | exact HB.out | apply below_alloc | apply pw_below_drewN | apply below_drew1) | exact HB.out)⟩
                        · rw [if_neg c73] at H
                          have c73b0 : (t179 == 0) = false := beq_eq_false_iff_ne.mpr c73
                          have c73b1 : (t179 != 0) = true := bne_iff_ne.mpr c73
                          obtain rfl := Option.some.inj H
                          go_wp2_with (first | ((with_reducible refine gate_callee (f := 17) rfl ?_); refine goesL_ (some 62) rfl rfl Tryd.func17 (by kernel_rfl) rfl #[.string x5_1] rfl (by (try simp only [List.map_toArray, List.map_cons, List.map_nil]); first | done | rfl | (simp only [List.length_drop, List.length_take]; rfl)) ?_; (with_reducible refine (lexC.calls x5_1 t178 t179 t180 _ ?side1 A48.out).mono ?_); (case side1 => exact GoodW.below HG.out (by repeat (first | (with_reducible first | exact HB.out | apply below_alloc | apply pw_below_drewN | apply below_drew1) | exact HB.out))); rintro e w76 ⟨v181, rfl, ho0, hb⟩; refine ⟨_, rfl, ?_⟩; have n0_ := Aside0.mk (Kd.R_lower ho0 (below_size (by repeat (first | (with_reducible first | exact HB.out | apply below_alloc | apply pw_below_drewN | apply below_drew1) | exact HB.out)))); have n1_ := Aside0.mk (below_step (by repeat (first | (with_reducible first | exact HB.out | apply below_alloc | apply pw_below_drewN | apply below_drew1) | exact HB.out)) hb); clear HB; have HO182 := n0_; have HB := n1_; clear n0_ n1_; (try clear hb); (try clear hb2); (try clear hk); (try clear hi); (try clear ho0); obtain ⟨Ao77, co77, eo77⟩ := Kd.R_slice HO182.out; subst eo77))
                          go_ret
                          exact ⟨by first | rfl | (simp [errW_none, errW_some] <;> rfl) | (simp only [← hji3]; first | rfl | (simp [errW_none, errW_some] <;> rfl)) | (simp [*, errW_none, errW_some] <;> rfl), by repeat (first | (with_reducible first | exact HB.out | apply below_alloc | apply pw_below_drewN | apply below_drew1) | exact HB.out)⟩
                      · rw [if_neg c72] at H
                        have c72b0 : (t180 == 51) = false := beq_eq_false_iff_ne.mpr c72
                        have c72b1 : (t180 != 51) = true := bne_iff_ne.mpr c72
                        obtain rfl := Option.some.inj H
                        go_wp2_with (first | ((with_reducible refine gate_callee (f := 17) rfl ?_); refine goesL_ (some 62) rfl rfl Tryd.func17 (by kernel_rfl) rfl #[.string x5_1] rfl (by (try simp only [List.map_toArray, List.map_cons, List.map_nil]); first | done | rfl | (simp only [List.length_drop, List.length_take]; rfl)) ?_; (with_reducible refine (lexC.calls x5_1 t178 t179 t180 _ ?side1 A48.out).mono ?_); (case side1 => exact GoodW.below HG.out (by repeat (first | (with_reducible first | exact HB.out | apply below_alloc | apply pw_below_drewN | apply below_drew1) | exact HB.out))); rintro e w78 ⟨v181, rfl, ho0, hb⟩; refine ⟨_, rfl, ?_⟩; have n0_ := Aside0.mk (Kd.R_lower ho0 (below_size (by repeat (first | (with_reducible first | exact HB.out | apply below_alloc | apply pw_below_drewN | apply below_drew1) | exact HB.out)))); have n1_ := Aside0.mk (below_step (by repeat (first | (with_reducible first | exact HB.out | apply below_alloc | apply pw_below_drewN | apply below_drew1) | exact HB.out)) hb); clear HB; have HO182 := n0_; have HB := n1_; clear n0_ n1_; (try clear hb); (try clear hb2); (try clear hk); (try clear hi); (try clear ho0); obtain ⟨Ao79, co79, eo79⟩ := Kd.R_slice HO182.out; subst eo79))
                        go_ret
                        exact ⟨by first | rfl | (simp [errW_none, errW_some] <;> rfl) | (simp only [← hji3]; first | rfl | (simp [errW_none, errW_some] <;> rfl)) | (simp [*, errW_none, errW_some] <;> rfl), by repeat (first | (with_reducible first | exact HB.out | apply below_alloc | apply pw_below_drewN | apply below_drew1) | exact HB.out)⟩
                  · rw [if_neg c58] at H
                    have c58b0 : (t180 == 0) = false := beq_eq_false_iff_ne.mpr c58
                    have c58b1 : (t180 != 0) = true := bne_iff_ne.mpr c58
                    by_cases c80 : t180 = 51
                    · rw [if_pos c80] at H
                      have c80b0 : (t180 == 51) = true := beq_iff_eq.mpr c80
                      have c80b1 : (t180 != 51) = false := bne_eq_false_iff_eq.mpr c80
                      clear c80
                      by_cases c81 : t179 = 0
                      · rw [if_pos c81] at H
                        have c81b0 : (t179 == 0) = true := beq_iff_eq.mpr c81
                        have c81b1 : (t179 != 0) = false := bne_eq_false_iff_eq.mpr c81
                        clear c81
                        obtain rfl := Option.some.inj H
                        go_wp2_with (first | ((with_reducible refine gate_callee (f := 17) rfl ?_); refine goesL_ (some 62) rfl rfl Tryd.func17 (by kernel_rfl) rfl #[.string x5_1] rfl (by (try simp only [List.map_toArray, List.map_cons, List.map_nil]); first | done | rfl | (simp only [List.length_drop, List.length_take]; rfl)) ?_; (with_reducible refine (lexC.calls x5_1 t178 t179 t180 _ ?side1 A48.out).mono ?_); (case side1 => exact GoodW.below HG.out (by repeat (first | (with_reducible first | exact HB.out | apply below_alloc | apply pw_below_drewN | apply below_drew1) | exact HB.out))); rintro e w82 ⟨v181, rfl, ho0, hb⟩; refine ⟨_, rfl, ?_⟩; have n0_ := Aside0.mk (Kd.R_lower ho0 (below_size (by repeat (first | (with_reducible first | exact HB.out | apply below_alloc | apply pw_below_drewN | apply below_drew1) | exact HB.out)))); have n1_ := Aside0.mk (below_step (by repeat (first | (with_reducible first | exact HB.out | apply below_alloc | apply pw_below_drewN | apply below_drew1) | exact HB.out)) hb); clear HB; have HO182 := n0_; have HB := n1_; clear n0_ n1_; (try clear hb); (try clear hb2); (try clear hk); (try clear hi); (try clear ho0)))
                        go_ret
                        exact ⟨by first | rfl | (simp [errW_none, errW_some] <;> rfl) | (simp only [← hji3]; first | rfl | (simp [errW_none, errW_some] <;> rfl)) | (simp [*, errW_none, errW_some] <;> rfl), by repeat (first | (with_reducible first | exact HB.out | apply below_alloc | apply pw_below_drewN | apply below_drew1) | exact HB.out)⟩
                      · rw [if_neg c81] at H
                        have c81b0 : (t179 == 0) = false := beq_eq_false_iff_ne.mpr c81
                        have c81b1 : (t179 != 0) = true := bne_iff_ne.mpr c81
                        obtain rfl := Option.some.inj H
                        go_wp2_with (first | ((with_reducible refine gate_callee (f := 17) rfl ?_); refine goesL_ (some 62) rfl rfl Tryd.func17 (by kernel_rfl) rfl #[.string x5_1] rfl (by (try simp only [List.map_toArray, List.map_cons, List.map_nil]); first | done | rfl | (simp only [List.length_drop, List.length_take]; rfl)) ?_; (with_reducible refine (lexC.calls x5_1 t178 t179 t180 _ ?side1 A48.out).mono ?_); (case side1 => exact GoodW.below HG.out (by repeat (first | (with_reducible first | exact HB.out | apply below_alloc | apply pw_below_drewN | apply below_drew1) | exact HB.out))); rintro e w83 ⟨v181, rfl, ho0, hb⟩; refine ⟨_, rfl, ?_⟩; have n0_ := Aside0.mk (Kd.R_lower ho0 (below_size (by repeat (first | (with_reducible first | exact HB.out | apply below_alloc | apply pw_below_drewN | apply below_drew1) | exact HB.out)))); have n1_ := Aside0.mk (below_step (by repeat (first | (with_reducible first | exact HB.out | apply below_alloc | apply pw_below_drewN | apply below_drew1) | exact HB.out)) hb); clear HB; have HO182 := n0_; have HB := n1_; clear n0_ n1_; (try clear hb); (try clear hb2); (try clear hk); (try clear hi); (try clear ho0)))
                        go_ret
                        exact ⟨by first | rfl | (simp [errW_none, errW_some] <;> rfl) | (simp only [← hji3]; first | rfl | (simp [errW_none, errW_some] <;> rfl)) | (simp [*, errW_none, errW_some] <;> rfl), by repeat (first | (with_reducible first | exact HB.out | apply below_alloc | apply pw_below_drewN | apply below_drew1) | exact HB.out)⟩
                    · rw [if_neg c80] at H
                      have c80b0 : (t180 == 51) = false := beq_eq_false_iff_ne.mpr c80
                      have c80b1 : (t180 != 51) = true := bne_iff_ne.mpr c80
                      obtain rfl := Option.some.inj H
                      go_wp2_with (first | ((with_reducible refine gate_callee (f := 17) rfl ?_); refine goesL_ (some 62) rfl rfl Tryd.func17 (by kernel_rfl) rfl #[.string x5_1] rfl (by (try simp only [List.map_toArray, List.map_cons, List.map_nil]); first | done | rfl | (simp only [List.length_drop, List.length_take]; rfl)) ?_; (with_reducible refine (lexC.calls x5_1 t178 t179 t180 _ ?side1 A48.out).mono ?_); (case side1 => exact GoodW.below HG.out (by repeat (first | (with_reducible first | exact HB.out | apply below_alloc | apply pw_below_drewN | apply below_drew1) | exact HB.out))); rintro e w84 ⟨v181, rfl, ho0, hb⟩; refine ⟨_, rfl, ?_⟩; have n0_ := Aside0.mk (Kd.R_lower ho0 (below_size (by repeat (first | (with_reducible first | exact HB.out | apply below_alloc | apply pw_below_drewN | apply below_drew1) | exact HB.out)))); have n1_ := Aside0.mk (below_step (by repeat (first | (with_reducible first | exact HB.out | apply below_alloc | apply pw_below_drewN | apply below_drew1) | exact HB.out)) hb); clear HB; have HO182 := n0_; have HB := n1_; clear n0_ n1_; (try clear hb); (try clear hb2); (try clear hk); (try clear hi); (try clear ho0)))
                      go_ret
                      exact ⟨by first | rfl | (simp [errW_none, errW_some] <;> rfl) | (simp only [← hji3]; first | rfl | (simp [errW_none, errW_some] <;> rfl)) | (simp [*, errW_none, errW_some] <;> rfl), by repeat (first | (with_reducible first | exact HB.out | apply below_alloc | apply pw_below_drewN | apply below_drew1) | exact HB.out)⟩
                · replace c57 := Bool.eq_false_iff.mpr c57
                  subst c57
                  have H1 : (some false) = some r := by rw [if_neg (show ¬ (false = true) by decide)] at H; exact H
                  clear H
                  have H := H1
                  clear H1
                  obtain rfl := Option.some.inj H
                  go_wp2_with (first | ((with_reducible refine gate_callee (f := 17) rfl ?_); refine goesL_ (some 62) rfl rfl Tryd.func17 (by kernel_rfl) rfl #[.string x5_1] rfl (by (try simp only [List.map_toArray, List.map_cons, List.map_nil]); first | done | rfl | (simp only [List.length_drop, List.length_take]; rfl)) ?_; (with_reducible refine (lexC.calls x5_1 t178 t179 t180 _ ?side1 A48.out).mono ?_); (case side1 => exact GoodW.below HG.out (by repeat (first | (with_reducible first | exact HB.out | apply below_alloc | apply pw_below_drewN | apply below_drew1) | exact HB.out))); rintro e w85 ⟨v181, rfl, ho0, hb⟩; refine ⟨_, rfl, ?_⟩; have n0_ := Aside0.mk (Kd.R_lower ho0 (below_size (by repeat (first | (with_reducible first | exact HB.out | apply below_alloc | apply pw_below_drewN | apply below_drew1) | exact HB.out)))); have n1_ := Aside0.mk (below_step (by repeat (first | (with_reducible first | exact HB.out | apply below_alloc | apply pw_below_drewN | apply below_drew1) | exact HB.out)) hb); clear HB; have HO182 := n0_; have HB := n1_; clear n0_ n1_; (try clear hb); (try clear hb2); (try clear hk); (try clear hi); (try clear ho0)))
                  go_ret
                  exact ⟨by first | rfl | (simp [errW_none, errW_some] <;> rfl) | (simp only [← hji3]; first | rfl | (simp [errW_none, errW_some] <;> rfl)) | (simp [*, errW_none, errW_some] <;> rfl), by repeat (first | (with_reducible first | exact HB.out | apply below_alloc | apply pw_below_drewN | apply below_drew1) | exact HB.out)⟩
              · replace c56 := Bool.eq_false_iff.mpr c56
                subst c56
                have H1 : (if (x5_1.size : Int) > 32 then (if t172 = true then (if t180 = 3 then (if t179 = 0 then (some ((t178.length : Int) == 0)) else (some false)) else (some false)) else (some false)) else (if t172 = true then (if t180 = 0 then (if (t178.length : Int) = 1 then (if 0 < (t178.length : Int) then (some (((rd_T30 t178 0).f0) == 6 && (((rd_T30 t178 0).f1) == 0 && (((rd_T30 t178 0).f2) == 0 && ((((rd_T30 t178 0).f3).toList) == x5_1.toList))))) else (none)) else (some false)) else (some false)) else (some false))) = some r := by rw [if_neg (show ¬ (false = true) by decide)] at H; exact H
                clear H
                have H := H1
                clear H1
                by_cases c86 : (x5_1.size : Int) > 32
                · rw [if_pos c86] at H
                  have c86b0 : decide (32 < (x5_1.size : Int)) = true := decide_eq_true c86
                  have c86b1 : decide (32 < x5_1.size) = true := decide_eq_true (by omega)
                  clear c86
                  by_cases c87 : t172 = true
                  · subst c87
                    have H1 : (if t180 = 3 then (if t179 = 0 then (some ((t178.length : Int) == 0)) else (some false)) else (some false)) = some r := by rw [if_pos rfl] at H; exact H
                    clear H
                    have H := H1
                    clear H1
                    by_cases c88 : t180 = 3
                    · rw [if_pos c88] at H
                      have c88b0 : (t180 == 3) = true := beq_iff_eq.mpr c88
                      have c88b1 : (t180 != 3) = false := bne_eq_false_iff_eq.mpr c88
                      clear c88
                      by_cases c89 : t179 = 0
                      · rw [if_pos c89] at H
                        have c89b0 : (t179 == 0) = true := beq_iff_eq.mpr c89
                        have c89b1 : (t179 != 0) = false := bne_eq_false_iff_eq.mpr c89
                        clear c89
                        obtain rfl := Option.some.inj H
                        go_wp2_with (first | ((with_reducible refine gate_callee (f := 17) rfl ?_); refine goesL_ (some 62) rfl rfl Tryd.func17 (by kernel_rfl) rfl #[.string x5_1] rfl (by (try simp only [List.map_toArray, List.map_cons, List.map_nil]); first | done | rfl | (simp only [List.length_drop, List.length_take]; rfl)) ?_; (with_reducible refine (lexC.calls x5_1 t178 t179 t180 _ ?side1 A48.out).mono ?_); (case side1 => exact GoodW.below HG.out (by repeat (first | (with_reducible first | exact HB.out | apply below_alloc | apply pw_below_drewN | apply below_drew1) | exact HB.out))); rintro e w90 ⟨v181, rfl, ho0, hb⟩; refine ⟨_, rfl, ?_⟩; have n0_ := Aside0.mk (Kd.R_lower ho0 (below_size (by repeat (first | (with_reducible first | exact HB.out | apply below_alloc | apply pw_below_drewN | apply below_drew1) | exact HB.out)))); have n1_ := Aside0.mk (below_step (by repeat (first | (with_reducible first | exact HB.out | apply below_alloc | apply pw_below_drewN | apply below_drew1) | exact HB.out)) hb); clear HB; have HO182 := n0_; have HB := n1_; clear n0_ n1_; (try clear hb); (try clear hb2); (try clear hk); (try clear hi); (try clear ho0); obtain ⟨Ao91, co91, eo91⟩ := Kd.R_slice HO182.out; subst eo91))
                        go_ret
                        exact ⟨by first | rfl | (simp [errW_none, errW_some] <;> rfl) | (simp only [← hji3]; first | rfl | (simp [errW_none, errW_some] <;> rfl)) | (simp [*, errW_none, errW_some] <;> rfl), by repeat (first | (with_reducible first | exact HB.out | apply below_alloc | apply pw_below_drewN | apply below_drew1) | exact HB.out)⟩
                      · rw [if_neg c89] at H
                        have c89b0 : (t179 == 0) = false := beq_eq_false_iff_ne.mpr c89
                        have c89b1 : (t179 != 0) = true := bne_iff_ne.mpr c89
                        obtain rfl := Option.some.inj H
                        go_wp2_with (first | ((with_reducible refine gate_callee (f := 17) rfl ?_); refine goesL_ (some 62) rfl rfl Tryd.func17 (by kernel_rfl) rfl #[.string x5_1] rfl (by (try simp only [List.map_toArray, List.map_cons, List.map_nil]); first | done | rfl | (simp only [List.length_drop, List.length_take]; rfl)) ?_; (with_reducible refine (lexC.calls x5_1 t178 t179 t180 _ ?side1 A48.out).mono ?_); (case side1 => exact GoodW.below HG.out (by repeat (first | (with_reducible first | exact HB.out | apply below_alloc | apply pw_below_drewN | apply below_drew1) | exact HB.out))); rintro e w92 ⟨v181, rfl, ho0, hb⟩; refine ⟨_, rfl, ?_⟩; have n0_ := Aside0.mk (Kd.R_lower ho0 (below_size (by repeat (first | (with_reducible first | exact HB.out | apply below_alloc | apply pw_below_drewN | apply below_drew1) | exact HB.out)))); have n1_ := Aside0.mk (below_step (by repeat (first | (with_reducible first | exact HB.out | apply below_alloc | apply pw_below_drewN | apply below_drew1) | exact HB.out)) hb); clear HB; have HO182 := n0_; have HB := n1_; clear n0_ n1_; (try clear hb); (try clear hb2); (try clear hk); (try clear hi); (try clear ho0)))
                        go_ret
                        exact ⟨by first | rfl | (simp [errW_none, errW_some] <;> rfl) | (simp only [← hji3]; first | rfl | (simp [errW_none, errW_some] <;> rfl)) | (simp [*, errW_none, errW_some] <;> rfl), by repeat (first | (with_reducible first | exact HB.out | apply below_alloc | apply pw_below_drewN | apply below_drew1) | exact HB.out)⟩
                    · rw [if_neg c88] at H
                      have c88b0 : (t180 == 3) = false := beq_eq_false_iff_ne.mpr c88
                      have c88b1 : (t180 != 3) = true := bne_iff_ne.mpr c88
                      obtain rfl := Option.some.inj H
                      go_wp2_with (first | ((with_reducible refine gate_callee (f := 17) rfl ?_); refine goesL_ (some 62) rfl rfl Tryd.func17 (by kernel_rfl) rfl #[.string x5_1] rfl (by (try simp only [List.map_toArray, List.map_cons, List.map_nil]); first | done | rfl | (simp only [List.length_drop, List.length_take]; rfl)) ?_; (with_reducible refine (lexC.calls x5_1 t178 t179 t180 _ ?side1 A48.out).mono ?_); (case side1 => exact GoodW.below HG.out (by repeat (first | (with_reducible first | exact HB.out | apply below_alloc | apply pw_below_drewN | apply below_drew1) | exact HB.out))); rintro e w93 ⟨v181, rfl, ho0, hb⟩; refine ⟨_, rfl, ?_⟩; have n0_ := Aside0.mk (Kd.R_lower ho0 (below_size (by repeat (first | (with_reducible first | exact HB.out | apply below_alloc | apply pw_below_drewN | apply below_drew1) | exact HB.out)))); have n1_ := Aside0.mk (below_step (by repeat (first | (with_reducible first | exact HB.out | apply below_alloc | apply pw_below_drewN | apply below_drew1) | exact HB.out)) hb); clear HB; have HO182 := n0_; have HB := n1_; clear n0_ n1_; (try clear hb); (try clear hb2); (try clear hk); (try clear hi); (try clear ho0)))
                      go_ret
                      exact ⟨by first | rfl | (simp [errW_none, errW_some] <;> rfl) | (simp only [← hji3]; first | rfl | (simp [errW_none, errW_some] <;> rfl)) | (simp [*, errW_none, errW_some] <;> rfl), by repeat (first | (with_reducible first | exact HB.out | apply below_alloc | apply pw_below_drewN | apply below_drew1) | exact HB.out)⟩
                  · replace c87 := Bool.eq_false_iff.mpr c87
                    subst c87
                    have H1 : (some false) = some r := by rw [if_neg (show ¬ (false = true) by decide)] at H; exact H
                    clear H
                    have H := H1
                    clear H1
                    obtain rfl := Option.some.inj H
                    go_wp2_with (first | ((with_reducible refine gate_callee (f := 17) rfl ?_); refine goesL_ (some 62) rfl rfl Tryd.func17 (by kernel_rfl) rfl #[.string x5_1] rfl (by (try simp only [List.map_toArray, List.map_cons, List.map_nil]); first | done | rfl | (simp only [List.length_drop, List.length_take]; rfl)) ?_; (with_reducible refine (lexC.calls x5_1 t178 t179 t180 _ ?side1 A48.out).mono ?_); (case side1 => exact GoodW.below HG.out (by repeat (first | (with_reducible first | exact HB.out | apply below_alloc | apply pw_below_drewN | apply below_drew1) | exact HB.out))); rintro e w94 ⟨v181, rfl, ho0, hb⟩; refine ⟨_, rfl, ?_⟩; have n0_ := Aside0.mk (Kd.R_lower ho0 (below_size (by repeat (first | (with_reducible first | exact HB.out | apply below_alloc | apply pw_below_drewN | apply below_drew1) | exact HB.out)))); have n1_ := Aside0.mk (below_step (by repeat (first | (with_reducible first | exact HB.out | apply below_alloc | apply pw_below_drewN | apply below_drew1) | exact HB.out)) hb); clear HB; have HO182 := n0_; have HB := n1_; clear n0_ n1_; (try clear hb); (try clear hb2); (try clear hk); (try clear hi); (try clear ho0)))
                    go_ret
                    exact ⟨by first | rfl | (simp [errW_none, errW_some] <;> rfl) | (simp only [← hji3]; first | rfl | (simp [errW_none, errW_some] <;> rfl)) | (simp [*, errW_none, errW_some] <;> rfl), by repeat (first | (with_reducible first | exact HB.out | apply below_alloc | apply pw_below_drewN | apply below_drew1) | exact HB.out)⟩
                · rw [if_neg c86] at H
                  have c86b0 : decide (32 < (x5_1.size : Int)) = false := decide_eq_false c86
                  have c86b1 : decide (32 < x5_1.size) = false := decide_eq_false (by omega)
                  clear c86
                  by_cases c95 : t172 = true
                  · subst c95
                    have H1 : (if t180 = 0 then (if (t178.length : Int) = 1 then (if 0 < (t178.length : Int) then (some (((rd_T30 t178 0).f0) == 6 && (((rd_T30 t178 0).f1) == 0 && (((rd_T30 t178 0).f2) == 0 && ((((rd_T30 t178 0).f3).toList) == x5_1.toList))))) else (none)) else (some false)) else (some false)) = some r := by rw [if_pos rfl] at H; exact H
                    clear H
                    have H := H1
                    clear H1
                    by_cases c96 : t180 = 0
                    · rw [if_pos c96] at H
                      have c96b0 : (t180 == 0) = true := beq_iff_eq.mpr c96
                      have c96b1 : (t180 != 0) = false := bne_eq_false_iff_eq.mpr c96
                      clear c96
                      by_cases c97 : (t178.length : Int) = 1
                      · rw [if_pos c97] at H
                        have c97b0 : ((t178.length : Int) == 1) = true := beq_iff_eq.mpr c97
                        have c97b1 : ((t178.length : Int) != 1) = false := bne_eq_false_iff_eq.mpr c97
                        clear c97
                        by_cases c98 : 0 < (t178.length : Int)
                        · rw [if_pos c98] at H
                          have c98b0 : decide (0 < (t178.length : Int)) = true := decide_eq_true c98
                          have c98b1 : decide (0 < t178.length) = true := decide_eq_true (by omega)
                          clear c98
                          obtain rfl := Option.some.inj H
                          go_wp2_with (first | ((with_reducible refine gate_callee (f := 17) rfl ?_); refine goesL_ (some 62) rfl rfl Tryd.func17 (by kernel_rfl) rfl #[.string x5_1] rfl (by (try simp only [List.map_toArray, List.map_cons, List.map_nil]); first | done | rfl | (simp only [List.length_drop, List.length_take]; rfl)) ?_; (with_reducible refine (lexC.calls x5_1 t178 t179 t180 _ ?side1 A48.out).mono ?_); (case side1 => exact GoodW.below HG.out (by repeat (first | (with_reducible first | exact HB.out | apply below_alloc | apply pw_below_drewN | apply below_drew1) | exact HB.out))); rintro e w99 ⟨v181, rfl, ho0, hb⟩; refine ⟨_, rfl, ?_⟩; have n0_ := Aside0.mk (Kd.R_lower ho0 (below_size (by repeat (first | (with_reducible first | exact HB.out | apply below_alloc | apply pw_below_drewN | apply below_drew1) | exact HB.out)))); have n1_ := Aside0.mk (below_step (by repeat (first | (with_reducible first | exact HB.out | apply below_alloc | apply pw_below_drewN | apply below_drew1) | exact HB.out)) hb); clear HB; have HO182 := n0_; have HB := n1_; clear n0_ n1_; (try clear hb); (try clear hb2); (try clear hk); (try clear hi); (try clear ho0); obtain ⟨Ao100, co100, eo100⟩ := Kd.R_slice HO182.out; subst eo100; have p184 : 0 ≤ (0 : Int) := (by omega); have q184 : 0 < (t178.length : Int) := of_decide_eq_true (by first | (with_reducible assumption) | assumption); obtain ⟨ad184, e184, hx184_0, hx184_1, hx184_2, hx184_3⟩ := at_T30 (Kd.R_reads' HO182.out).2.2 0 p184 q184; cases e184; have qi184 : (0 < t178.length) = True := eq_true (by omega); (try rw [show ((0 : Int)).toNat = 0 from rfl] at hx184_0); (try rw [show 0 * 4 = 0 from rfl] at hx184_0); (try rw [Addr.add_zero'] at hx184_0); (try rw [show ((0 : Int)).toNat = 0 from rfl] at hx184_1); (try rw [show 0 * 4 = 0 from rfl] at hx184_1); (try rw [Addr.add_zero'] at hx184_1); (try rw [show ((0 : Int)).toNat = 0 from rfl] at hx184_2); (try rw [show 0 * 4 = 0 from rfl] at hx184_2); (try rw [Addr.add_zero'] at hx184_2); (try rw [show ((0 : Int)).toNat = 0 from rfl] at hx184_3); (try rw [show 0 * 4 = 0 from rfl] at hx184_3); (try rw [Addr.add_zero'] at hx184_3); replace p184 := eq_true p184; replace q184 := eq_true q184))
                          go_ret
                          exact ⟨by first | rfl | (simp [errW_none, errW_some] <;> rfl) | (simp only [← hji3]; first | rfl | (simp [errW_none, errW_some] <;> rfl)) | (simp [*, errW_none, errW_some] <;> rfl), by repeat (first | (with_reducible first | exact HB.out | apply below_alloc | apply pw_below_drewN | apply below_drew1) | exact HB.out)⟩
                        · rw [if_neg c98] at H
                          exact absurd H (by simp)
                      · rw [if_neg c97] at H
                        have c97b0 : ((t178.length : Int) == 1) = false := beq_eq_false_iff_ne.mpr c97
                        have c97b1 : ((t178.length : Int) != 1) = true := bne_iff_ne.mpr c97
                        obtain rfl := Option.some.inj H
                        go_wp2_with (first | ((with_reducible refine gate_callee (f := 17) rfl ?_); refine goesL_ (some 62) rfl rfl Tryd.func17 (by kernel_rfl) rfl #[.string x5_1] rfl (by (try simp only [List.map_toArray, List.map_cons, List.map_nil]); first | done | rfl | (simp only [List.length_drop, List.length_take]; rfl)) ?_; (with_reducible refine (lexC.calls x5_1 t178 t179 t180 _ ?side1 A48.out).mono ?_); (case side1 => exact GoodW.below HG.out (by repeat (first | (with_reducible first | exact HB.out | apply below_alloc | apply pw_below_drewN | apply below_drew1) | exact HB.out))); rintro e w101 ⟨v181, rfl, ho0, hb⟩; refine ⟨_, rfl, ?_⟩; have n0_ := Aside0.mk (Kd.R_lower ho0 (below_size (by repeat (first | (with_reducible first | exact HB.out | apply below_alloc | apply pw_below_drewN | apply below_drew1) | exact HB.out)))); have n1_ := Aside0.mk (below_step (by repeat (first | (with_reducible first | exact HB.out | apply below_alloc | apply pw_below_drewN | apply below_drew1) | exact HB.out)) hb); clear HB; have HO182 := n0_; have HB := n1_; clear n0_ n1_; (try clear hb); (try clear hb2); (try clear hk); (try clear hi); (try clear ho0); obtain ⟨Ao102, co102, eo102⟩ := Kd.R_slice HO182.out; subst eo102))
                        go_ret
                        exact ⟨by first | rfl | (simp [errW_none, errW_some] <;> rfl) | (simp only [← hji3]; first | rfl | (simp [errW_none, errW_some] <;> rfl)) | (simp [*, errW_none, errW_some] <;> rfl), by repeat (first | (with_reducible first | exact HB.out | apply below_alloc | apply pw_below_drewN | apply below_drew1) | exact HB.out)⟩
                    · rw [if_neg c96] at H
                      have c96b0 : (t180 == 0) = false := beq_eq_false_iff_ne.mpr c96
                      have c96b1 : (t180 != 0) = true := bne_iff_ne.mpr c96
                      obtain rfl := Option.some.inj H
                      go_wp2_with (first | ((with_reducible refine gate_callee (f := 17) rfl ?_); refine goesL_ (some 62) rfl rfl Tryd.func17 (by kernel_rfl) rfl #[.string x5_1] rfl (by (try simp only [List.map_toArray, List.map_cons, List.map_nil]); first | done | rfl | (simp only [List.length_drop, List.length_take]; rfl)) ?_; (with_reducible refine (lexC.calls x5_1 t178 t179 t180 _ ?side1 A48.out).mono ?_); (case side1 => exact GoodW.below HG.out (by repeat (first | (with_reducible first | exact HB.out | apply below_alloc | apply pw_below_drewN | apply below_drew1) | exact HB.out))); rintro e w103 ⟨v181, rfl, ho0, hb⟩; refine ⟨_, rfl, ?_⟩; have n0_ := Aside0.mk (Kd.R_lower ho0 (below_size (by repeat (first | (with_reducible first | exact HB.out | apply below_alloc | apply pw_below_drewN | apply below_drew1) | exact HB.out)))); have n1_ := Aside0.mk (below_step (by repeat (first | (with_reducible first | exact HB.out | apply below_alloc | apply pw_below_drewN | apply below_drew1) | exact HB.out)) hb); clear HB; have HO182 := n0_; have HB := n1_; clear n0_ n1_; (try clear hb); (try clear hb2); (try clear hk); (try clear hi); (try clear ho0)))
                      go_ret
                      exact ⟨by first | rfl | (simp [errW_none, errW_some] <;> rfl) | (simp only [← hji3]; first | rfl | (simp [errW_none, errW_some] <;> rfl)) | (simp [*, errW_none, errW_some] <;> rfl), by repeat (first | (with_reducible first | exact HB.out | apply below_alloc | apply pw_below_drewN | apply below_drew1) | exact HB.out)⟩
                  · replace c95 := Bool.eq_false_iff.mpr c95
                    subst c95
                    have H1 : (some false) = some r := by rw [if_neg (show ¬ (false = true) by decide)] at H; exact H
                    clear H
                    have H := H1
                    clear H1
                    obtain rfl := Option.some.inj H
                    go_wp2_with (first | ((with_reducible refine gate_callee (f := 17) rfl ?_); refine goesL_ (some 62) rfl rfl Tryd.func17 (by kernel_rfl) rfl #[.string x5_1] rfl (by (try simp only [List.map_toArray, List.map_cons, List.map_nil]); first | done | rfl | (simp only [List.length_drop, List.length_take]; rfl)) ?_; (with_reducible refine (lexC.calls x5_1 t178 t179 t180 _ ?side1 A48.out).mono ?_); (case side1 => exact GoodW.below HG.out (by repeat (first | (with_reducible first | exact HB.out | apply below_alloc | apply pw_below_drewN | apply below_drew1) | exact HB.out))); rintro e w104 ⟨v181, rfl, ho0, hb⟩; refine ⟨_, rfl, ?_⟩; have n0_ := Aside0.mk (Kd.R_lower ho0 (below_size (by repeat (first | (with_reducible first | exact HB.out | apply below_alloc | apply pw_below_drewN | apply below_drew1) | exact HB.out)))); have n1_ := Aside0.mk (below_step (by repeat (first | (with_reducible first | exact HB.out | apply below_alloc | apply pw_below_drewN | apply below_drew1) | exact HB.out)) hb); clear HB; have HO182 := n0_; have HB := n1_; clear n0_ n1_; (try clear hb); (try clear hb2); (try clear hk); (try clear hi); (try clear ho0)))
                    go_ret
                    exact ⟨by first | rfl | (simp [errW_none, errW_some] <;> rfl) | (simp only [← hji3]; first | rfl | (simp [errW_none, errW_some] <;> rfl)) | (simp [*, errW_none, errW_some] <;> rfl), by repeat (first | (with_reducible first | exact HB.out | apply below_alloc | apply pw_below_drewN | apply below_drew1) | exact HB.out)⟩
    · rw [if_neg c5] at H
      exact absurd H (by simp)
  · rw [if_neg c4] at H
    exact absurd H (by simp)

/-- THE ONE PURE STATEMENT of eddywheellaw05_LexNames: yours. -/
def eddywheellaw05_LexNames.Pure : Prop := ∀ (l0 : List Int), l0.length ≤ maxLen → l0.length * 1 ≤ 140737488351232 → (∀ x ∈ l0, (Lit.int .u8 x).wf = true) → ∃ k, eddywheellaw05_LexNames.f k l0 = some true
theorem eddywheellaw05_LexNames.walk (P : eddywheellaw05_LexNames.Pure) (a0 : Option Addr) (len0 cap0 : Nat) (z0 : List Int) (w : World) (hG : GoodW w) (w0 : (a0 = none ∧ len0 = 0 ∧ cap0 = 0 ∧ z0 = []) ∨ ∃ x, a0 = some x ∧ len0 ≤ cap0 ∧ cap0 ≤ maxLen ∧ z0.length = cap0 ∧ (∀ i, i < z0.length → w.cell? (x.add i) = some (.int .u8 (z0.getD i 0))) ∧ ∀ n ∈ z0, (Lit.int .u8 n).wf = true) (y0 : len0 * 1 ≤ 140737488351232) :
    Calls Tryd.prog 7 #[.slice a0 len0 cap0] w fun e w' => e = .returned (.bool true) ∧ Below w.heap.size w w' := by
  obtain ⟨l0, rfl, hr0, hm0, hw0, hc0⟩ := ReadsInt.ofRowC w0
  obtain ⟨k, h⟩ := P l0 hm0 y0 hw0
  refine (eddywheellaw05_LexNames.calls k _ _ l0 true w hG (Kd.C_of_reads (d := (0 : Int)) (h1 := fun _ => rfl) hr0) hc0 h).mono ?_
  rintro e w' ⟨rfl, hd⟩
  exact ⟨rfl, hd⟩

end Go.Proofs.YthempkdgmobocaaDoor.Q
