/- Texts of this claim, one behind the other: Tx3. -/
import Derived.Test.YthempkdgmobocaaDoorBt
section
-- Written by myprint.py, a program of the session's own, out of the translation. Lean checks it.
namespace Go.Proofs.YthempkdgmobocaaDoor.T
open Go.RowKit Go.Proofs.YthempkdgmobocaaDoorX Go.Proofs.YthempkdgmobocaaDoorE Go.Proofs.YthempkdgmobocaaDoor.L Go.Proofs.YthempkdgmobocaaDoor.N Go.Proofs.YthempkdgmobocaaDoorW.PrintWords Go.Proofs.YthempkdgmobocaaDoorW.PrintLast Go.Proofs.YthempkdgmobocaaDoorW.PrintMore
attribute [local go_sem] max2_int min2_int max_two min_two max_three min_three max_four min_four   -- for this text's walks alone
attribute [local go_sem] cell_again map_some'
set_option linter.unusedVariables false
set_option linter.unusedSimpArgs false

/-! ### RD6: function 11 -/
mutual
def RD6.l0 : Nat → Bool → Int → Int → ByteArray → Int → Int → Option (Bool)
 | 0, _, _, _, _, _, _ => none
 | k + 1, x5, x6, x7, x8, x35, x36 => if x36 < x35 then (if x36 < x7 then (if x8.size + 1 ≤ 9223372036854775807 then (RD6.l0 k x5 x6 x7 (x8 ++ (⟨#[39]⟩ : ByteArray)) x35 (wrap64 (x36 + 1))) else (none)) else (if x8.size + 1 ≤ 9223372036854775807 then (RD6.l0 k x5 x6 x7 (x8 ++ (⟨#[40]⟩ : ByteArray)) x35 (wrap64 (x36 + 1))) else (none))) else (RD6.l1 k x5 x6 x7 x8 (⟨#[]⟩ : ByteArray) (wrap64 (x6 - x7)) 0)
def RD6.l1 : Nat → Bool → Int → Int → ByteArray → ByteArray → Int → Int → Option (Bool)
 | 0, _, _, _, _, _, _, _ => none
 | k + 1, x5, x6, x7, x8, x10, x49, x50 => if x50 < x49 then (if x10.size + 1 ≤ 9223372036854775807 then (RD6.l1 k x5 x6 x7 x8 (x10 ++ (⟨#[41]⟩ : ByteArray)) x49 (wrap64 (x50 + 1))) else (none)) else ((readC.f x8).bind fun bt183 => (if x8.size + 1 ≤ 9223372036854775807 then (if (x8 ++ (⟨#[120]⟩ : ByteArray)).size + x10.size ≤ 9223372036854775807 then ((readC.f ((x8 ++ (⟨#[120]⟩ : ByteArray)) ++ x10)).bind fun bt191 => ((readC.f (⟨#[120, 41]⟩ : ByteArray)).bind fun bt199 => (if x6 > 50 then (if x5 = true then (if bt183.2.2.2 = 62 then (if bt183.2.2.1 = 50 then (if bt191.2.2.2 = 62 then (some ((bt191.1.length : Int) == 0)) else (some false)) else (some false)) else (some false)) else (some false)) else (if x6 = 0 then (if x5 = true then (if bt183.2.2.2 = 0 then (if bt183.2.2.1 = (mx (wrap64 (x6 - 1)) 0) then (if bt191.2.2.2 = 0 then (if (bt191.2.1.length : Int) = 1 then (if (bt191.1.length : Int) = (wrap64 ((wrap64 (1 + x6)) + x7)) then (if bt199.2.2.1 = 1 then (some (bt199.2.2.2 == 61)) else (some false)) else (some false)) else (some false)) else (some false)) else (some false)) else (some false)) else (some false)) else (if x7 = x6 then (if x5 = true then (if bt183.2.2.2 = 63 then (if bt183.2.2.1 = (mx (wrap64 (x6 - 1)) 0) then (if bt191.2.2.2 = 0 then (if (bt191.2.1.length : Int) = 1 then (if (bt191.1.length : Int) = (wrap64 ((wrap64 (1 + x6)) + x7)) then (if bt199.2.2.1 = 1 then (some (bt199.2.2.2 == 61)) else (some false)) else (some false)) else (some false)) else (some false)) else (some false)) else (some false)) else (some false)) else (if x5 = true then (if bt183.2.2.2 = 60 then (if bt183.2.2.1 = (mx (wrap64 (x6 - 1)) 0) then (if bt191.2.2.2 = 0 then (if (bt191.2.1.length : Int) = 1 then (if (bt191.1.length : Int) = (wrap64 ((wrap64 (1 + x6)) + x7)) then (if bt199.2.2.1 = 1 then (some (bt199.2.2.2 == 61)) else (some false)) else (some false)) else (some false)) else (some false)) else (some false)) else (some false)) else (some false))))))) else (none)) else (none)))
end
def RD6.f (k : Nat) (a0 : Int) (a1 : Int) : Option (Bool) := (eddywheellaw06_shown.f).bind fun t182 => (if (wrap64 ((wrap64 (Int.tmod a0 61)) + 1)) = 0 then (none) else (RD6.l0 k t182 (wrap64 (Int.tmod a0 61)) (Int.tmod (wrap64 (a1)) (wrap64 ((wrap64 (Int.tmod a0 61)) + 1))) (⟨#[]⟩ : ByteArray) (wrap64 (Int.tmod a0 61)) 0))
theorem RD6.mono_l : ∀ k, (∀ y0 y1 y2 y3 y4 y5, LeO (RD6.l0 k y0 y1 y2 y3 y4 y5) (RD6.l0 (k + 1) y0 y1 y2 y3 y4 y5)) ∧ (∀ y0 y1 y2 y3 y4 y5 y6, LeO (RD6.l1 k y0 y1 y2 y3 y4 y5 y6) (RD6.l1 (k + 1) y0 y1 y2 y3 y4 y5 y6))
 | 0 => ⟨fun _ _ _ _ _ _ r h => by simp [RD6.l0] at h, fun _ _ _ _ _ _ _ r h => by simp [RD6.l1] at h⟩
 | k + 1 => by
  obtain ⟨ih0, ih1⟩ := RD6.mono_l k
  refine ⟨?_, ?_⟩
  ·intro y0 y1 y2 y3 y4 y5
   unfold RD6.l0
   repeat' first
   | (with_reducible exact ih0 _ _ _ _ _ _)
   | (with_reducible exact ih1 _ _ _ _ _ _ _)
   | (with_reducible exact LeO.refl _)
   | (with_reducible exact LeO.none _)
   | (with_reducible refine LeO.ite ?_ ?_)
   | (with_reducible refine LeO.bind ?_ (fun _ => ?_))
   | exact ih0 _ _ _ _ _ _
   | exact ih1 _ _ _ _ _ _ _
   | exact LeO.none _
   | refine LeO.ite ?_ ?_
   | refine LeO.bind ?_ (fun _ => ?_)
  ·intro y0 y1 y2 y3 y4 y5 y6
   unfold RD6.l1
   repeat' first
   | (with_reducible exact ih0 _ _ _ _ _ _)
   | (with_reducible exact ih1 _ _ _ _ _ _ _)
   | (with_reducible exact LeO.refl _)
   | (with_reducible exact LeO.none _)
   | (with_reducible refine LeO.ite ?_ ?_)
   | (with_reducible refine LeO.bind ?_ (fun _ => ?_))
   | exact ih0 _ _ _ _ _ _
   | exact ih1 _ _ _ _ _ _ _
   | exact LeO.none _
   | refine LeO.ite ?_ ?_
   | refine LeO.bind ?_ (fun _ => ?_)
theorem RD6.mono : ∀ a0 a1 k, LeO (RD6.f k a0 a1) (RD6.f (k + 1) a0 a1) := by
 intro a0 a1 k
 obtain ⟨ih0, ih1⟩ := RD6.mono_l k
 unfold RD6.f
 repeat' first
   | (with_reducible exact ih0 _ _ _ _ _ _)
   | (with_reducible exact ih1 _ _ _ _ _ _ _)
   | (with_reducible exact LeO.refl _)
   | (with_reducible exact LeO.none _)
   | (with_reducible refine LeO.ite ?_ ?_)
   | (with_reducible refine LeO.bind ?_ (fun _ => ?_))
   | exact ih0 _ _ _ _ _ _
   | exact ih1 _ _ _ _ _ _ _
   | exact LeO.none _
   | refine LeO.ite ?_ ?_
   | refine LeO.bind ?_ (fun _ => ?_)
set_option maxHeartbeats 8000000 in
set_option maxRecDepth 100000 in
theorem RD6.calls (k : Nat) (a0 : Int) (a1 : Int) (r : Bool) (w : World) (hG : GoodW w) (h : RD6.f k a0 a1 = some r) :
  Calls Tryd.prog 11 #[.int .u8 a0, .int .u8 a1] w fun e w' => e = .returned (.bool r) ∧ Below w.heap.size w w' := by
 have HG := Aside0.mk hG
 clear hG
 have HB := Aside0.mk (Below.refl w.heap.size w)
 have H : ((eddywheellaw06_shown.f).bind fun t182 => (if (wrap64 ((wrap64 (Int.tmod a0 61)) + 1)) = 0 then (none) else (RD6.l0 k t182 (wrap64 (Int.tmod a0 61)) (Int.tmod (wrap64 (a1)) (wrap64 ((wrap64 (Int.tmod a0 61)) + 1))) (⟨#[]⟩ : ByteArray) (wrap64 (Int.tmod a0 61)) 0))) = some r := h
 clear h
 replace H := Option.bind_eq_some_iff.mp H
 obtain ⟨t182, A30, H⟩ := H
 replace H : (if (wrap64 ((wrap64 (Int.tmod a0 61)) + 1)) = 0 then (none) else (RD6.l0 k t182 (wrap64 (Int.tmod a0 61)) (Int.tmod (wrap64 (a1)) (wrap64 ((wrap64 (Int.tmod a0 61)) + 1))) (⟨#[]⟩ : ByteArray) (wrap64 (Int.tmod a0 61)) 0)) = some r := H
 have A3 := Aside0.mk A30
 clear A30
 by_cases c4 : (wrap64 ((wrap64 (Int.tmod a0 61)) + 1)) = 0
 ·rw [if_pos c4] at H
  exact absurd H (by simp)
 ·rw [if_neg c4] at H
  have c4b0 : ((wrap64 ((wrap64 (Int.tmod a0 61)) + 1)) == 0) = false := beq_eq_false_iff_ne.mpr c4
  have c4b1 : ((wrap64 ((wrap64 (Int.tmod a0 61)) + 1)) != 0) = true := bne_iff_ne.mpr c4
  have H' := Aside0.mk H
  clear H
  go_enter Tryd.func11, Tryd.ntmps11
  go_wp2_with (first | (go_at_call 21; (with_reducible refine (eddywheellaw06_shown.calls  t182 _ ?side1 A3.out).mono ?_); (case side1 => exact GoodW.below HG.out (by repeat (first | (with_reducible first | exact HB.out | apply below_alloc | apply pw_below_drewN | apply below_drew1) | exact HB.out))); rintro e w5 ⟨rfl, hb⟩; have n0_ := Aside0.mk (below_step (by repeat (first | (with_reducible first | exact HB.out | apply below_alloc | apply pw_below_drewN | apply below_drew1) | exact HB.out)) hb); clear HB; have HB := n0_; clear n0_; (try clear hb); (try clear hb2); (try clear hk); (try clear hi)))
  repeat (go_quiet (first | (go_at_call 21; (with_reducible refine (eddywheellaw06_shown.calls  t182 _ ?side1 A3.out).mono ?_); (case side1 => exact GoodW.below HG.out (by repeat (first | (with_reducible first | exact HB.out | apply below_alloc | apply pw_below_drewN | apply below_drew1) | exact HB.out))); rintro e w5 ⟨rfl, hb⟩; have n0_ := Aside0.mk (below_step (by repeat (first | (with_reducible first | exact HB.out | apply below_alloc | apply pw_below_drewN | apply below_drew1) | exact HB.out)) hb); clear HB; have HB := n0_; clear n0_; (try clear hb); (try clear hb2); (try clear hk); (try clear hi))); try go_wp2_with (first | (go_at_call 21; (with_reducible refine (eddywheellaw06_shown.calls  t182 _ ?side1 A3.out).mono ?_); (case side1 => exact GoodW.below HG.out (by repeat (first | (with_reducible first | exact HB.out | apply below_alloc | apply pw_below_drewN | apply below_drew1) | exact HB.out))); rintro e w5 ⟨rfl, hb⟩; have n0_ := Aside0.mk (below_step (by repeat (first | (with_reducible first | exact HB.out | apply below_alloc | apply pw_below_drewN | apply below_drew1) | exact HB.out)) hb); clear HB; have HB := n0_; clear n0_; (try clear hb); (try clear hb2); (try clear hk); (try clear hi))))
  go_loopg [8, 36] k (fun kq v8 v36 w' => ∃ (x8_1 : ByteArray) (x36_1 : Int), v8 = .string x8_1 ∧ v36 = .int .i64 x36_1 ∧ Aside0 (RD6.l0 kq t182 (wrap64 (Int.tmod a0 61)) (Int.tmod (wrap64 (a1)) (wrap64 ((wrap64 (Int.tmod a0 61)) + 1))) x8_1 (wrap64 (Int.tmod a0 61)) x36_1 = some r) ∧ Aside0 (kq ≤ k) ∧ Aside0 (Below w.heap.size w w'))
  case atStart => exact ⟨((⟨#[]⟩ : ByteArray)), (0), (by first | rfl | (simp; done) | (simp [*]; done)), (by first | rfl | (simp; done) | (simp [*]; done)), H', ⟨Nat.le_refl _⟩, ⟨by repeat (first | (with_reducible first | exact HB.out | apply below_alloc | apply pw_below_drewN | apply below_drew1) | exact HB.out)⟩⟩
  case round =>
   clear H'
   try clear c1
   try clear p2
   try clear c4
   try clear c4b0
   try clear c4b1
   obtain ⟨x8_1, x36_1, rfl, rfl, HA, HK1, HB⟩ := hrel
   cases gk with
   | zero => exact absurd HA.out (by simp [RD6.l0])
   | succ k1 =>
    have H := HA.out
    clear HA
    simp only [RD6.l0] at H
    by_cases c6 : x36_1 < (wrap64 (Int.tmod a0 61))
    ·rw [if_pos c6] at H
     have c6b0 : decide (x36_1 < (wrap64 (Int.tmod a0 61))) = true := decide_eq_true c6
     clear c6
     by_cases c7 : x36_1 < (Int.tmod (wrap64 (a1)) (wrap64 ((wrap64 (Int.tmod a0 61)) + 1)))
     ·rw [if_pos c7] at H
      have c7b0 : decide (x36_1 < (Int.tmod (wrap64 (a1)) (wrap64 ((wrap64 (Int.tmod a0 61)) + 1)))) = true := decide_eq_true c7
      clear c7
      by_cases c8 : x8_1.size + 1 ≤ 9223372036854775807
      ·rw [if_pos c8] at H
       have c8b0 := eq_true c8
       have c8b1 : decide (x8_1.size + 1 ≤ 9223372036854775807) = true := decide_eq_true c8
       try have c8b2 : (9223372036854775807 < x8_1.size + 1) = False := eq_false (Nat.not_lt.2 c8)
       have H' := Aside0.mk H
       clear H
       go_wp2
       repeat (go_quiet (fail); try go_wp2)
       go_roundg k1
       case measure => have := HK1.out; omega
       case rel => exact ⟨(x8_1 ++ (⟨#[39]⟩ : ByteArray)), (wrap64 (x36_1 + 1)), (by first | rfl | (simp; done) | (simp [*]; done)), (by first | rfl | (simp; done) | (simp [*]; done)), H', ⟨by have := HK1.out; omega⟩, ⟨by repeat (first | (with_reducible first | exact HB.out | apply below_alloc | apply pw_below_drewN | apply below_drew1) | exact HB.out)⟩⟩
      ·rw [if_neg c8] at H
       exact absurd H (by simp)
     ·rw [if_neg c7] at H
      have c7b0 : decide (x36_1 < (Int.tmod (wrap64 (a1)) (wrap64 ((wrap64 (Int.tmod a0 61)) + 1)))) = false := decide_eq_false c7
      clear c7
      by_cases c9 : x8_1.size + 1 ≤ 9223372036854775807
      ·rw [if_pos c9] at H
       have c9b0 := eq_true c9
       have c9b1 : decide (x8_1.size + 1 ≤ 9223372036854775807) = true := decide_eq_true c9
       try have c9b2 : (9223372036854775807 < x8_1.size + 1) = False := eq_false (Nat.not_lt.2 c9)
       have H' := Aside0.mk H
       clear H
       go_wp2
       repeat (go_quiet (fail); try go_wp2)
       go_roundg k1
       case measure => have := HK1.out; omega
       case rel => exact ⟨(x8_1 ++ (⟨#[40]⟩ : ByteArray)), (wrap64 (x36_1 + 1)), (by first | rfl | (simp; done) | (simp [*]; done)), (by first | rfl | (simp; done) | (simp [*]; done)), H', ⟨by have := HK1.out; omega⟩, ⟨by repeat (first | (with_reducible first | exact HB.out | apply below_alloc | apply pw_below_drewN | apply below_drew1) | exact HB.out)⟩⟩
      ·rw [if_neg c9] at H
       exact absurd H (by simp)
    ·rw [if_neg c6] at H
     have c6b0 : decide (x36_1 < (wrap64 (Int.tmod a0 61))) = false := decide_eq_false c6
     clear c6
     have H' := Aside0.mk H
     clear H
     go_wp2
     repeat (go_quiet (fail); try go_wp2)
     go_loopg [10, 50] k1 (fun kq v10 v50 w' => ∃ (x10_2 : ByteArray) (x50_2 : Int), v10 = .string x10_2 ∧ v50 = .int .i64 x50_2 ∧ Aside0 (RD6.l1 kq t182 (wrap64 (Int.tmod a0 61)) (Int.tmod (wrap64 (a1)) (wrap64 ((wrap64 (Int.tmod a0 61)) + 1))) x8_1 x10_2 (wrap64 ((wrap64 (Int.tmod a0 61)) - (Int.tmod (wrap64 (a1)) (wrap64 ((wrap64 (Int.tmod a0 61)) + 1))))) x50_2 = some r) ∧ Aside0 (kq ≤ k1) ∧ Aside0 (Below w.heap.size w w'))
     case atStart => exact ⟨((⟨#[]⟩ : ByteArray)), (0), (by first | rfl | (simp; done) | (simp [*]; done)), (by first | rfl | (simp; done) | (simp [*]; done)), H', ⟨Nat.le_refl _⟩, ⟨by repeat (first | (with_reducible first | exact HB.out | apply below_alloc | apply pw_below_drewN | apply below_drew1) | exact HB.out)⟩⟩
     case round =>
      clear H'
      try clear c1
      try clear p2
      try clear c4
      try clear c4b0
      try clear c4b1
      try clear c6
      try clear c6b0
      try clear p6
      try clear c7
      try clear c7b0
      try clear c8
      try clear c8b0
      try clear c8b1
      try clear c8b2
      try clear c9
      try clear c9b0
      try clear c9b1
      try clear c9b2
      try clear p2
      obtain ⟨x10_2, x50_2, rfl, rfl, HA, HK2, HB⟩ := hrel
      cases gk with
      | zero => exact absurd HA.out (by simp [RD6.l1])
      | succ k2 =>
       have H := HA.out
       clear HA
       simp only [RD6.l1] at H
       by_cases c10 : x50_2 < (wrap64 ((wrap64 (Int.tmod a0 61)) - (Int.tmod (wrap64 (a1)) (wrap64 ((wrap64 (Int.tmod a0 61)) + 1)))))
       ·rw [if_pos c10] at H
        have c10b0 : decide (x50_2 < (wrap64 ((wrap64 (Int.tmod a0 61)) - (Int.tmod (wrap64 (a1)) (wrap64 ((wrap64 (Int.tmod a0 61)) + 1)))))) = true := decide_eq_true c10
        clear c10
        by_cases c11 : x10_2.size + 1 ≤ 9223372036854775807
        ·rw [if_pos c11] at H
         have c11b0 := eq_true c11
         have c11b1 : decide (x10_2.size + 1 ≤ 9223372036854775807) = true := decide_eq_true c11
         try have c11b2 : (9223372036854775807 < x10_2.size + 1) = False := eq_false (Nat.not_lt.2 c11)
         have H' := Aside0.mk H
         clear H
         go_wp2
         repeat (go_quiet (fail); try go_wp2)
         go_roundg k2
         case measure => have := HK1.out; have := HK2.out; omega
         case rel => exact ⟨(x10_2 ++ (⟨#[41]⟩ : ByteArray)), (wrap64 (x50_2 + 1)), (by first | rfl | (simp; done) | (simp [*]; done)), (by first | rfl | (simp; done) | (simp [*]; done)), H', ⟨by have := HK1.out; have := HK2.out; omega⟩, ⟨by repeat (first | (with_reducible first | exact HB.out | apply below_alloc | apply pw_below_drewN | apply below_drew1) | exact HB.out)⟩⟩
        ·rw [if_neg c11] at H
         exact absurd H (by simp)
       ·rw [if_neg c10] at H
        have c10b0 : decide (x50_2 < (wrap64 ((wrap64 (Int.tmod a0 61)) - (Int.tmod (wrap64 (a1)) (wrap64 ((wrap64 (Int.tmod a0 61)) + 1)))))) = false := decide_eq_false c10
        clear c10
        replace H := Option.bind_eq_some_iff.mp H
        obtain ⟨⟨t183, t184, t185, t186⟩, A120, H⟩ := H
        replace H : (if x8_1.size + 1 ≤ 9223372036854775807 then (if (x8_1 ++ (⟨#[120]⟩ : ByteArray)).size + x10_2.size ≤ 9223372036854775807 then ((readC.f ((x8_1 ++ (⟨#[120]⟩ : ByteArray)) ++ x10_2)).bind fun bt191 => ((readC.f (⟨#[120, 41]⟩ : ByteArray)).bind fun bt199 => (if (wrap64 (Int.tmod a0 61)) > 50 then (if t182 = true then (if t186 = 62 then (if t185 = 50 then (if bt191.2.2.2 = 62 then (some ((bt191.1.length : Int) == 0)) else (some false)) else (some false)) else (some false)) else (some false)) else (if (wrap64 (Int.tmod a0 61)) = 0 then (if t182 = true then (if t186 = 0 then (if t185 = (mx (wrap64 ((wrap64 (Int.tmod a0 61)) - 1)) 0) then (if bt191.2.2.2 = 0 then (if (bt191.2.1.length : Int) = 1 then (if (bt191.1.length : Int) = (wrap64 ((wrap64 (1 + (wrap64 (Int.tmod a0 61)))) + (Int.tmod (wrap64 (a1)) (wrap64 ((wrap64 (Int.tmod a0 61)) + 1))))) then (if bt199.2.2.1 = 1 then (some (bt199.2.2.2 == 61)) else (some false)) else (some false)) else (some false)) else (some false)) else (some false)) else (some false)) else (some false)) else (if (Int.tmod (wrap64 (a1)) (wrap64 ((wrap64 (Int.tmod a0 61)) + 1))) = (wrap64 (Int.tmod a0 61)) then (if t182 = true then (if t186 = 63 then (if t185 = (mx (wrap64 ((wrap64 (Int.tmod a0 61)) - 1)) 0) then (if bt191.2.2.2 = 0 then (if (bt191.2.1.length : Int) = 1 then (if (bt191.1.length : Int) = (wrap64 ((wrap64 (1 + (wrap64 (Int.tmod a0 61)))) + (Int.tmod (wrap64 (a1)) (wrap64 ((wrap64 (Int.tmod a0 61)) + 1))))) then (if bt199.2.2.1 = 1 then (some (bt199.2.2.2 == 61)) else (some false)) else (some false)) else (some false)) else (some false)) else (some false)) else (some false)) else (some false)) else (if t182 = true then (if t186 = 60 then (if t185 = (mx (wrap64 ((wrap64 (Int.tmod a0 61)) - 1)) 0) then (if bt191.2.2.2 = 0 then (if (bt191.2.1.length : Int) = 1 then (if (bt191.1.length : Int) = (wrap64 ((wrap64 (1 + (wrap64 (Int.tmod a0 61)))) + (Int.tmod (wrap64 (a1)) (wrap64 ((wrap64 (Int.tmod a0 61)) + 1))))) then (if bt199.2.2.1 = 1 then (some (bt199.2.2.2 == 61)) else (some false)) else (some false)) else (some false)) else (some false)) else (some false)) else (some false)) else (some false))))))) else (none)) else (none)) = some r := H
        have A12 := Aside0.mk A120
        clear A120
        by_cases c13 : x8_1.size + 1 ≤ 9223372036854775807
        ·rw [if_pos c13] at H
         have c13b0 := eq_true c13
         have c13b1 : decide (x8_1.size + 1 ≤ 9223372036854775807) = true := decide_eq_true c13
         try have c13b2 : (9223372036854775807 < x8_1.size + 1) = False := eq_false (Nat.not_lt.2 c13)
         by_cases c14 : (x8_1 ++ (⟨#[120]⟩ : ByteArray)).size + x10_2.size ≤ 9223372036854775807
         ·rw [if_pos c14] at H
          have c14b0 := eq_true c14
          have c14b1 : decide ((x8_1 ++ (⟨#[120]⟩ : ByteArray)).size + x10_2.size ≤ 9223372036854775807) = true := decide_eq_true c14
          try have c14b2 : (9223372036854775807 < (x8_1 ++ (⟨#[120]⟩ : ByteArray)).size + x10_2.size) = False := eq_false (Nat.not_lt.2 c14)
          replace H := Option.bind_eq_some_iff.mp H
          obtain ⟨⟨t191, t192, t193, t194⟩, A150, H⟩ := H
          replace H : ((readC.f (⟨#[120, 41]⟩ : ByteArray)).bind fun bt199 => (if (wrap64 (Int.tmod a0 61)) > 50 then (if t182 = true then (if t186 = 62 then (if t185 = 50 then (if t194 = 62 then (some ((t191.length : Int) == 0)) else (some false)) else (some false)) else (some false)) else (some false)) else (if (wrap64 (Int.tmod a0 61)) = 0 then (if t182 = true then (if t186 = 0 then (if t185 = (mx (wrap64 ((wrap64 (Int.tmod a0 61)) - 1)) 0) then (if t194 = 0 then (if (t192.length : Int) = 1 then (if (t191.length : Int) = (wrap64 ((wrap64 (1 + (wrap64 (Int.tmod a0 61)))) + (Int.tmod (wrap64 (a1)) (wrap64 ((wrap64 (Int.tmod a0 61)) + 1))))) then (if bt199.2.2.1 = 1 then (some (bt199.2.2.2 == 61)) else (some false)) else (some false)) else (some false)) else (some false)) else (some false)) else (some false)) else (some false)) else (if (Int.tmod (wrap64 (a1)) (wrap64 ((wrap64 (Int.tmod a0 61)) + 1))) = (wrap64 (Int.tmod a0 61)) then (if t182 = true then (if t186 = 63 then (if t185 = (mx (wrap64 ((wrap64 (Int.tmod a0 61)) - 1)) 0) then (if t194 = 0 then (if (t192.length : Int) = 1 then (if (t191.length : Int) = (wrap64 ((wrap64 (1 + (wrap64 (Int.tmod a0 61)))) + (Int.tmod (wrap64 (a1)) (wrap64 ((wrap64 (Int.tmod a0 61)) + 1))))) then (if bt199.2.2.1 = 1 then (some (bt199.2.2.2 == 61)) else (some false)) else (some false)) else (some false)) else (some false)) else (some false)) else (some false)) else (some false)) else (if t182 = true then (if t186 = 60 then (if t185 = (mx (wrap64 ((wrap64 (Int.tmod a0 61)) - 1)) 0) then (if t194 = 0 then (if (t192.length : Int) = 1 then (if (t191.length : Int) = (wrap64 ((wrap64 (1 + (wrap64 (Int.tmod a0 61)))) + (Int.tmod (wrap64 (a1)) (wrap64 ((wrap64 (Int.tmod a0 61)) + 1))))) then (if bt199.2.2.1 = 1 then (some (bt199.2.2.2 == 61)) else (some false)) else (some false)) else (some false)) else (some false)) else (some false)) else (some false)) else (some false)))))) = some r := H
          have A15 := Aside0.mk A150
          clear A150
          replace H := Option.bind_eq_some_iff.mp H
          obtain ⟨⟨t199, t200, t201, t202⟩, A160, H⟩ := H
          replace H : (if (wrap64 (Int.tmod a0 61)) > 50 then (if t182 = true then (if t186 = 62 then (if t185 = 50 then (if t194 = 62 then (some ((t191.length : Int) == 0)) else (some false)) else (some false)) else (some false)) else (some false)) else (if (wrap64 (Int.tmod a0 61)) = 0 then (if t182 = true then (if t186 = 0 then (if t185 = (mx (wrap64 ((wrap64 (Int.tmod a0 61)) - 1)) 0) then (if t194 = 0 then (if (t192.length : Int) = 1 then (if (t191.length : Int) = (wrap64 ((wrap64 (1 + (wrap64 (Int.tmod a0 61)))) + (Int.tmod (wrap64 (a1)) (wrap64 ((wrap64 (Int.tmod a0 61)) + 1))))) then (if t201 = 1 then (some (t202 == 61)) else (some false)) else (some false)) else (some false)) else (some false)) else (some false)) else (some false)) else (some false)) else (if (Int.tmod (wrap64 (a1)) (wrap64 ((wrap64 (Int.tmod a0 61)) + 1))) = (wrap64 (Int.tmod a0 61)) then (if t182 = true then (if t186 = 63 then (if t185 = (mx (wrap64 ((wrap64 (Int.tmod a0 61)) - 1)) 0) then (if t194 = 0 then (if (t192.length : Int) = 1 then (if (t191.length : Int) = (wrap64 ((wrap64 (1 + (wrap64 (Int.tmod a0 61)))) + (Int.tmod (wrap64 (a1)) (wrap64 ((wrap64 (Int.tmod a0 61)) + 1))))) then (if t201 = 1 then (some (t202 == 61)) else (some false)) else (some false)) else (some false)) else (some false)) else (some false)) else (some false)) else (some false)) else (if t182 = true then (if t186 = 60 then (if t185 = (mx (wrap64 ((wrap64 (Int.tmod a0 61)) - 1)) 0) then (if t194 = 0 then (if (t192.length : Int) = 1 then (if (t191.length : Int) = (wrap64 ((wrap64 (1 + (wrap64 (Int.tmod a0 61)))) + (Int.tmod (wrap64 (a1)) (wrap64 ((wrap64 (Int.tmod a0 61)) + 1))))) then (if t201 = 1 then (some (t202 == 61)) else (some false)) else (some false)) else (some false)) else (some false)) else (some false)) else (some false)) else (some false))))) = some r := H
          have A16 := Aside0.mk A160
          clear A160
          by_cases c17 : (wrap64 (Int.tmod a0 61)) > 50
          ·rw [if_pos c17] at H
           have c17b0 : decide (50 < (wrap64 (Int.tmod a0 61))) = true := decide_eq_true c17
           clear c17
           by_cases c18 : t182 = true
           ·subst c18
            have H1 : (if t186 = 62 then (if t185 = 50 then (if t194 = 62 then (some ((t191.length : Int) == 0)) else (some false)) else (some false)) else (some false)) = some r := by rw [if_pos rfl] at H; exact H
            clear H
            have H := H1
            clear H1
            by_cases c19 : t186 = 62
            ·rw [if_pos c19] at H
             have c19b0 : (t186 == 62) = true := beq_iff_eq.mpr c19
             have c19b1 : (t186 != 62) = false := bne_eq_false_iff_eq.mpr c19
             clear c19
             by_cases c20 : t185 = 50
             ·rw [if_pos c20] at H
              have c20b0 : (t185 == 50) = true := beq_iff_eq.mpr c20
              have c20b1 : (t185 != 50) = false := bne_eq_false_iff_eq.mpr c20
              clear c20
              by_cases c21 : t194 = 62
              ·rw [if_pos c21] at H
               have c21b0 : (t194 == 62) = true := beq_iff_eq.mpr c21
               have c21b1 : (t194 != 62) = false := bne_eq_false_iff_eq.mpr c21
               clear c21
               obtain rfl := Option.some.inj H
               go_wp2_with (first | (go_at_call 22; (with_reducible refine (readC.calls x8_1 t183 t184 t185 t186 _ ?side1 A12.out).mono ?_); (case side1 => exact GoodW.below HG.out (by repeat (first | (with_reducible first | exact HB.out | apply below_alloc | apply pw_below_drewN | apply below_drew1) | exact HB.out))); rintro e w22 ⟨v187, v189, rfl, ho0, ho1, hb⟩; have n0_ := Aside0.mk (below_step (by repeat (first | (with_reducible first | exact HB.out | apply below_alloc | apply pw_below_drewN | apply below_drew1) | exact HB.out)) hb); clear HB; have HB := n0_; clear n0_ hb; obtain ⟨Av187, cv187, ev187⟩ := Kd.R_slice ho0; subst ev187; obtain ⟨Av189, cv189, ev189⟩ := Kd.R_slice ho1; subst ev189; clear ho0 ho1) | (go_at_call 22; (with_reducible refine (readC.calls ((x8_1 ++ (⟨#[120]⟩ : ByteArray)) ++ x10_2) t191 t192 t193 t194 _ ?side1 A15.out).mono ?_); (case side1 => exact GoodW.below HG.out (by repeat (first | (with_reducible first | exact HB.out | apply below_alloc | apply pw_below_drewN | apply below_drew1) | exact HB.out))); rintro e w23 ⟨v195, v197, rfl, ho0, ho1, hb⟩; have n0_ := Aside0.mk (below_step (by repeat (first | (with_reducible first | exact HB.out | apply below_alloc | apply pw_below_drewN | apply below_drew1) | exact HB.out)) hb); clear HB; have HB := n0_; clear n0_ hb; obtain ⟨Av195, cv195, ev195⟩ := Kd.R_slice ho0; subst ev195; obtain ⟨Av197, cv197, ev197⟩ := Kd.R_slice ho1; subst ev197; clear ho0 ho1) | (go_at_call 22; (with_reducible refine (readC.calls (⟨#[120, 41]⟩ : ByteArray) t199 t200 t201 t202 _ ?side1 A16.out).mono ?_); (case side1 => exact GoodW.below HG.out (by repeat (first | (with_reducible first | exact HB.out | apply below_alloc | apply pw_below_drewN | apply below_drew1) | exact HB.out))); rintro e w24 ⟨v203, v205, rfl, ho0, ho1, hb⟩; have n0_ := Aside0.mk (below_step (by repeat (first | (with_reducible first | exact HB.out | apply below_alloc | apply pw_below_drewN | apply below_drew1) | exact HB.out)) hb); clear HB; have HB := n0_; clear n0_ hb; obtain ⟨Av203, cv203, ev203⟩ := Kd.R_slice ho0; subst ev203; obtain ⟨Av205, cv205, ev205⟩ := Kd.R_slice ho1; subst ev205; clear ho0 ho1))
               repeat (go_quiet (fail); try go_wp2)
               go_ret
               exact ⟨by first | rfl | (simp [errW_none, errW_some] <;> rfl) | (simp [*, errW_none, errW_some] <;> rfl), by repeat (first | (with_reducible first | exact HB.out | apply below_alloc | apply pw_below_drewN | apply below_drew1) | exact HB.out)⟩
              ·rw [if_neg c21] at H
               have c21b0 : (t194 == 62) = false := beq_eq_false_iff_ne.mpr c21
               have c21b1 : (t194 != 62) = true := bne_iff_ne.mpr c21
               obtain rfl := Option.some.inj H
               go_wp2_with (first | (go_at_call 22; (with_reducible refine (readC.calls x8_1 t183 t184 t185 t186 _ ?side1 A12.out).mono ?_); (case side1 => exact GoodW.below HG.out (by repeat (first | (with_reducible first | exact HB.out | apply below_alloc | apply pw_below_drewN | apply below_drew1) | exact HB.out))); rintro e w22 ⟨v187, v189, rfl, ho0, ho1, hb⟩; have n0_ := Aside0.mk (below_step (by repeat (first | (with_reducible first | exact HB.out | apply below_alloc | apply pw_below_drewN | apply below_drew1) | exact HB.out)) hb); clear HB; have HB := n0_; clear n0_ hb; obtain ⟨Av187, cv187, ev187⟩ := Kd.R_slice ho0; subst ev187; obtain ⟨Av189, cv189, ev189⟩ := Kd.R_slice ho1; subst ev189; clear ho0 ho1) | (go_at_call 22; (with_reducible refine (readC.calls ((x8_1 ++ (⟨#[120]⟩ : ByteArray)) ++ x10_2) t191 t192 t193 t194 _ ?side1 A15.out).mono ?_); (case side1 => exact GoodW.below HG.out (by repeat (first | (with_reducible first | exact HB.out | apply below_alloc | apply pw_below_drewN | apply below_drew1) | exact HB.out))); rintro e w23 ⟨v195, v197, rfl, ho0, ho1, hb⟩; have n0_ := Aside0.mk (below_step (by repeat (first | (with_reducible first | exact HB.out | apply below_alloc | apply pw_below_drewN | apply below_drew1) | exact HB.out)) hb); clear HB; have HB := n0_; clear n0_ hb; obtain ⟨Av195, cv195, ev195⟩ := Kd.R_slice ho0; subst ev195; obtain ⟨Av197, cv197, ev197⟩ := Kd.R_slice ho1; subst ev197; clear ho0 ho1) | (go_at_call 22; (with_reducible refine (readC.calls (⟨#[120, 41]⟩ : ByteArray) t199 t200 t201 t202 _ ?side1 A16.out).mono ?_); (case side1 => exact GoodW.below HG.out (by repeat (first | (with_reducible first | exact HB.out | apply below_alloc | apply pw_below_drewN | apply below_drew1) | exact HB.out))); rintro e w24 ⟨v203, v205, rfl, ho0, ho1, hb⟩; have n0_ := Aside0.mk (below_step (by repeat (first | (with_reducible first | exact HB.out | apply below_alloc | apply pw_below_drewN | apply below_drew1) | exact HB.out)) hb); clear HB; have HB := n0_; clear n0_ hb; obtain ⟨Av203, cv203, ev203⟩ := Kd.R_slice ho0; subst ev203; obtain ⟨Av205, cv205, ev205⟩ := Kd.R_slice ho1; subst ev205; clear ho0 ho1))
               repeat (go_quiet (fail); try go_wp2)
               go_ret
               exact ⟨by first | rfl | (simp [errW_none, errW_some] <;> rfl) | (simp [*, errW_none, errW_some] <;> rfl), by repeat (first | (with_reducible first | exact HB.out | apply below_alloc | apply pw_below_drewN | apply below_drew1) | exact HB.out)⟩
             ·rw [if_neg c20] at H
              have c20b0 : (t185 == 50) = false := beq_eq_false_iff_ne.mpr c20
              have c20b1 : (t185 != 50) = true := bne_iff_ne.mpr c20
              obtain rfl := Option.some.inj H
              go_wp2_with (first | (go_at_call 22; (with_reducible refine (readC.calls x8_1 t183 t184 t185 t186 _ ?side1 A12.out).mono ?_); (case side1 => exact GoodW.below HG.out (by repeat (first | (with_reducible first | exact HB.out | apply below_alloc | apply pw_below_drewN | apply below_drew1) | exact HB.out))); rintro e w22 ⟨v187, v189, rfl, ho0, ho1, hb⟩; have n0_ := Aside0.mk (below_step (by repeat (first | (with_reducible first | exact HB.out | apply below_alloc | apply pw_below_drewN | apply below_drew1) | exact HB.out)) hb); clear HB; have HB := n0_; clear n0_ hb; obtain ⟨Av187, cv187, ev187⟩ := Kd.R_slice ho0; subst ev187; obtain ⟨Av189, cv189, ev189⟩ := Kd.R_slice ho1; subst ev189; clear ho0 ho1) | (go_at_call 22; (with_reducible refine (readC.calls ((x8_1 ++ (⟨#[120]⟩ : ByteArray)) ++ x10_2) t191 t192 t193 t194 _ ?side1 A15.out).mono ?_); (case side1 => exact GoodW.below HG.out (by repeat (first | (with_reducible first | exact HB.out | apply below_alloc | apply pw_below_drewN | apply below_drew1) | exact HB.out))); rintro e w23 ⟨v195, v197, rfl, ho0, ho1, hb⟩; have n0_ := Aside0.mk (below_step (by repeat (first | (with_reducible first | exact HB.out | apply below_alloc | apply pw_below_drewN | apply below_drew1) | exact HB.out)) hb); clear HB; have HB := n0_; clear n0_ hb; obtain ⟨Av195, cv195, ev195⟩ := Kd.R_slice ho0; subst ev195; obtain ⟨Av197, cv197, ev197⟩ := Kd.R_slice ho1; subst ev197; clear ho0 ho1) | (go_at_call 22; (with_reducible refine (readC.calls (⟨#[120, 41]⟩ : ByteArray) t199 t200 t201 t202 _ ?side1 A16.out).mono ?_); (case side1 => exact GoodW.below HG.out (by repeat (first | (with_reducible first | exact HB.out | apply below_alloc | apply pw_below_drewN | apply below_drew1) | exact HB.out))); rintro e w24 ⟨v203, v205, rfl, ho0, ho1, hb⟩; have n0_ := Aside0.mk (below_step (by repeat (first | (with_reducible first | exact HB.out | apply below_alloc | apply pw_below_drewN | apply below_drew1) | exact HB.out)) hb); clear HB; have HB := n0_; clear n0_ hb; obtain ⟨Av203, cv203, ev203⟩ := Kd.R_slice ho0; subst ev203; obtain ⟨Av205, cv205, ev205⟩ := Kd.R_slice ho1; subst ev205; clear ho0 ho1))
              repeat (go_quiet (fail); try go_wp2)
              go_ret
              exact ⟨by first | rfl | (simp [errW_none, errW_some] <;> rfl) | (simp [*, errW_none, errW_some] <;> rfl), by repeat (first | (with_reducible first | exact HB.out | apply below_alloc | apply pw_below_drewN | apply below_drew1) | exact HB.out)⟩
            ·rw [if_neg c19] at H
             have c19b0 : (t186 == 62) = false := beq_eq_false_iff_ne.mpr c19
             have c19b1 : (t186 != 62) = true := bne_iff_ne.mpr c19
             obtain rfl := Option.some.inj H
             go_wp2_with (first | (go_at_call 22; (with_reducible refine (readC.calls x8_1 t183 t184 t185 t186 _ ?side1 A12.out).mono ?_); (case side1 => exact GoodW.below HG.out (by repeat (first | (with_reducible first | exact HB.out | apply below_alloc | apply pw_below_drewN | apply below_drew1) | exact HB.out))); rintro e w22 ⟨v187, v189, rfl, ho0, ho1, hb⟩; have n0_ := Aside0.mk (below_step (by repeat (first | (with_reducible first | exact HB.out | apply below_alloc | apply pw_below_drewN | apply below_drew1) | exact HB.out)) hb); clear HB; have HB := n0_; clear n0_ hb; obtain ⟨Av187, cv187, ev187⟩ := Kd.R_slice ho0; subst ev187; obtain ⟨Av189, cv189, ev189⟩ := Kd.R_slice ho1; subst ev189; clear ho0 ho1) | (go_at_call 22; (with_reducible refine (readC.calls ((x8_1 ++ (⟨#[120]⟩ : ByteArray)) ++ x10_2) t191 t192 t193 t194 _ ?side1 A15.out).mono ?_); (case side1 => exact GoodW.below HG.out (by repeat (first | (with_reducible first | exact HB.out | apply below_alloc | apply pw_below_drewN | apply below_drew1) | exact HB.out))); rintro e w23 ⟨v195, v197, rfl, ho0, ho1, hb⟩; have n0_ := Aside0.mk (below_step (by repeat (first | (with_reducible first | exact HB.out | apply below_alloc | apply pw_below_drewN | apply below_drew1) | exact HB.out)) hb); clear HB; have HB := n0_; clear n0_ hb; obtain ⟨Av195, cv195, ev195⟩ := Kd.R_slice ho0; subst ev195; obtain ⟨Av197, cv197, ev197⟩ := Kd.R_slice ho1; subst ev197; clear ho0 ho1) | (go_at_call 22; (with_reducible refine (readC.calls (⟨#[120, 41]⟩ : ByteArray) t199 t200 t201 t202 _ ?side1 A16.out).mono ?_); (case side1 => exact GoodW.below HG.out (by repeat (first | (with_reducible first | exact HB.out | apply below_alloc | apply pw_below_drewN | apply below_drew1) | exact HB.out))); rintro e w24 ⟨v203, v205, rfl, ho0, ho1, hb⟩; have n0_ := Aside0.mk (below_step (by repeat (first | (with_reducible first | exact HB.out | apply below_alloc | apply pw_below_drewN | apply below_drew1) | exact HB.out)) hb); clear HB; have HB := n0_; clear n0_ hb; obtain ⟨Av203, cv203, ev203⟩ := Kd.R_slice ho0; subst ev203; obtain ⟨Av205, cv205, ev205⟩ := Kd.R_slice ho1; subst ev205; clear ho0 ho1))
             repeat (go_quiet (fail); try go_wp2)
             go_ret
             exact ⟨by first | rfl | (simp [errW_none, errW_some] <;> rfl) | (simp [*, errW_none, errW_some] <;> rfl), by repeat (first | (with_reducible first | exact HB.out | apply below_alloc | apply pw_below_drewN | apply below_drew1) | exact HB.out)⟩
           ·replace c18 := Bool.eq_false_iff.mpr c18
            subst c18
            have H1 : (some false) = some r := by rw [if_neg (show ¬ (false = true) by decide)] at H; exact H
            clear H
            have H := H1
            clear H1
            obtain rfl := Option.some.inj H
            go_wp2_with (first | (go_at_call 22; (with_reducible refine (readC.calls x8_1 t183 t184 t185 t186 _ ?side1 A12.out).mono ?_); (case side1 => exact GoodW.below HG.out (by repeat (first | (with_reducible first | exact HB.out | apply below_alloc | apply pw_below_drewN | apply below_drew1) | exact HB.out))); rintro e w22 ⟨v187, v189, rfl, ho0, ho1, hb⟩; have n0_ := Aside0.mk (below_step (by repeat (first | (with_reducible first | exact HB.out | apply below_alloc | apply pw_below_drewN | apply below_drew1) | exact HB.out)) hb); clear HB; have HB := n0_; clear n0_ hb; obtain ⟨Av187, cv187, ev187⟩ := Kd.R_slice ho0; subst ev187; obtain ⟨Av189, cv189, ev189⟩ := Kd.R_slice ho1; subst ev189; clear ho0 ho1) | (go_at_call 22; (with_reducible refine (readC.calls ((x8_1 ++ (⟨#[120]⟩ : ByteArray)) ++ x10_2) t191 t192 t193 t194 _ ?side1 A15.out).mono ?_); (case side1 => exact GoodW.below HG.out (by repeat (first | (with_reducible first | exact HB.out | apply below_alloc | apply pw_below_drewN | apply below_drew1) | exact HB.out))); rintro e w23 ⟨v195, v197, rfl, ho0, ho1, hb⟩; have n0_ := Aside0.mk (below_step (by repeat (first | (with_reducible first | exact HB.out | apply below_alloc | apply pw_below_drewN | apply below_drew1) | exact HB.out)) hb); clear HB; have HB := n0_; clear n0_ hb; obtain ⟨Av195, cv195, ev195⟩ := Kd.R_slice ho0; subst ev195; obtain ⟨Av197, cv197, ev197⟩ := Kd.R_slice ho1; subst ev197; clear ho0 ho1) | (go_at_call 22; (with_reducible refine (readC.calls (⟨#[120, 41]⟩ : ByteArray) t199 t200 t201 t202 _ ?side1 A16.out).mono ?_); (case side1 => exact GoodW.below HG.out (by repeat (first | (with_reducible first | exact HB.out | apply below_alloc | apply pw_below_drewN | apply below_drew1) | exact HB.out))); rintro e w24 ⟨v203, v205, rfl, ho0, ho1, hb⟩; have n0_ := Aside0.mk (below_step (by repeat (first | (with_reducible first | exact HB.out | apply below_alloc | apply pw_below_drewN | apply below_drew1) | exact HB.out)) hb); clear HB; have HB := n0_; clear n0_ hb; obtain ⟨Av203, cv203, ev203⟩ := Kd.R_slice ho0; subst ev203; obtain ⟨Av205, cv205, ev205⟩ := Kd.R_slice ho1; subst ev205; clear ho0 ho1))
            repeat (go_quiet (fail); try go_wp2)
            go_ret
            exact ⟨by first | rfl | (simp [errW_none, errW_some] <;> rfl) | (simp [*, errW_none, errW_some] <;> rfl), by repeat (first | (with_reducible first | exact HB.out | apply below_alloc | apply pw_below_drewN | apply below_drew1) | exact HB.out)⟩
          ·rw [if_neg c17] at H
           have c17b0 : decide (50 < (wrap64 (Int.tmod a0 61))) = false := decide_eq_false c17
           clear c17
           by_cases c38 : (wrap64 (Int.tmod a0 61)) = 0
           ·rw [if_pos c38] at H
            have c38b0 : ((wrap64 (Int.tmod a0 61)) == 0) = true := beq_iff_eq.mpr c38
            have c38b1 : ((wrap64 (Int.tmod a0 61)) != 0) = false := bne_eq_false_iff_eq.mpr c38
            clear c38
            by_cases c39 : t182 = true
            ·subst c39
             have H1 : (if t186 = 0 then (if t185 = (mx (wrap64 ((wrap64 (Int.tmod a0 61)) - 1)) 0) then (if t194 = 0 then (if (t192.length : Int) = 1 then (if (t191.length : Int) = (wrap64 ((wrap64 (1 + (wrap64 (Int.tmod a0 61)))) + (Int.tmod (wrap64 (a1)) (wrap64 ((wrap64 (Int.tmod a0 61)) + 1))))) then (if t201 = 1 then (some (t202 == 61)) else (some false)) else (some false)) else (some false)) else (some false)) else (some false)) else (some false)) = some r := by rw [if_pos rfl] at H; exact H
             clear H
             have H := H1
             clear H1
             by_cases c40 : t186 = 0
             ·rw [if_pos c40] at H
              have c40b0 : (t186 == 0) = true := beq_iff_eq.mpr c40
              have c40b1 : (t186 != 0) = false := bne_eq_false_iff_eq.mpr c40
              clear c40
              obtain ⟨ji41, hji41⟩ : ∃ j_ : Int, (mx (wrap64 ((wrap64 (Int.tmod a0 61)) - 1)) 0) = j_ := ⟨_, rfl⟩
              replace H : (if t185 = (ji41) then (if t194 = 0 then (if (t192.length : Int) = 1 then (if (t191.length : Int) = (wrap64 ((wrap64 (1 + (wrap64 (Int.tmod a0 61)))) + (Int.tmod (wrap64 (a1)) (wrap64 ((wrap64 (Int.tmod a0 61)) + 1))))) then (if t201 = 1 then (some (t202 == 61)) else (some false)) else (some false)) else (some false)) else (some false)) else (some false)) = some r := by first | (rw [hji41] at H; exact H) | (simp only [hji41] at H ⊢; exact H)
              (try rw [hji41] at A12)
              (try rw [hji41] at A15)
              (try rw [hji41] at A16)
              have hji41_ : (if (wrap64 ((wrap64 (Int.tmod a0 61)) - 1)) < 0 then 0 else (wrap64 ((wrap64 (Int.tmod a0 61)) - 1))) = ji41 := hji41
              by_cases c42 : t185 = (ji41)
              ·rw [if_pos c42] at H
               have c42b0 : (t185 == (ji41)) = true := beq_iff_eq.mpr c42
               have c42b1 : (t185 != (ji41)) = false := bne_eq_false_iff_eq.mpr c42
               clear c42
               by_cases c43 : t194 = 0
               ·rw [if_pos c43] at H
                have c43b0 : (t194 == 0) = true := beq_iff_eq.mpr c43
                have c43b1 : (t194 != 0) = false := bne_eq_false_iff_eq.mpr c43
                clear c43
                by_cases c44 : (t192.length : Int) = 1
                ·rw [if_pos c44] at H
                 have c44b0 : ((t192.length : Int) == 1) = true := beq_iff_eq.mpr c44
                 have c44b1 : ((t192.length : Int) != 1) = false := bne_eq_false_iff_eq.mpr c44
                 clear c44
                 by_cases c45 : (t191.length : Int) = (wrap64 ((wrap64 (1 + (wrap64 (Int.tmod a0 61)))) + (Int.tmod (wrap64 (a1)) (wrap64 ((wrap64 (Int.tmod a0 61)) + 1)))))
                 ·rw [if_pos c45] at H
                  have c45b0 : ((t191.length : Int) == (wrap64 ((wrap64 (1 + (wrap64 (Int.tmod a0 61)))) + (Int.tmod (wrap64 (a1)) (wrap64 ((wrap64 (Int.tmod a0 61)) + 1)))))) = true := beq_iff_eq.mpr c45
                  have c45b1 : ((t191.length : Int) != (wrap64 ((wrap64 (1 + (wrap64 (Int.tmod a0 61)))) + (Int.tmod (wrap64 (a1)) (wrap64 ((wrap64 (Int.tmod a0 61)) + 1)))))) = false := bne_eq_false_iff_eq.mpr c45
                  clear c45
                  by_cases c46 : t201 = 1
                  ·rw [if_pos c46] at H
                   have c46b0 : (t201 == 1) = true := beq_iff_eq.mpr c46
                   have c46b1 : (t201 != 1) = false := bne_eq_false_iff_eq.mpr c46
                   clear c46
                   obtain rfl := Option.some.inj H
                   go_wp2_with (first | (go_at_call 22; (with_reducible refine (readC.calls x8_1 t183 t184 t185 t186 _ ?side1 A12.out).mono ?_); (case side1 => exact GoodW.below HG.out (by repeat (first | (with_reducible first | exact HB.out | apply below_alloc | apply pw_below_drewN | apply below_drew1) | exact HB.out))); rintro e w22 ⟨v187, v189, rfl, ho0, ho1, hb⟩; have n0_ := Aside0.mk (below_step (by repeat (first | (with_reducible first | exact HB.out | apply below_alloc | apply pw_below_drewN | apply below_drew1) | exact HB.out)) hb); clear HB; have HB := n0_; clear n0_ hb; obtain ⟨Av187, cv187, ev187⟩ := Kd.R_slice ho0; subst ev187; obtain ⟨Av189, cv189, ev189⟩ := Kd.R_slice ho1; subst ev189; clear ho0 ho1) | (go_at_call 22; (with_reducible refine (readC.calls ((x8_1 ++ (⟨#[120]⟩ : ByteArray)) ++ x10_2) t191 t192 t193 t194 _ ?side1 A15.out).mono ?_); (case side1 => exact GoodW.below HG.out (by repeat (first | (with_reducible first | exact HB.out | apply below_alloc | apply pw_below_drewN | apply below_drew1) | exact HB.out))); rintro e w23 ⟨v195, v197, rfl, ho0, ho1, hb⟩; have n0_ := Aside0.mk (below_step (by repeat (first | (with_reducible first | exact HB.out | apply below_alloc | apply pw_below_drewN | apply below_drew1) | exact HB.out)) hb); clear HB; have HB := n0_; clear n0_ hb; obtain ⟨Av195, cv195, ev195⟩ := Kd.R_slice ho0; subst ev195; obtain ⟨Av197, cv197, ev197⟩ := Kd.R_slice ho1; subst ev197; clear ho0 ho1) | (go_at_call 22; (with_reducible refine (readC.calls (⟨#[120, 41]⟩ : ByteArray) t199 t200 t201 t202 _ ?side1 A16.out).mono ?_); (case side1 => exact GoodW.below HG.out (by repeat (first | (with_reducible first | exact HB.out | apply below_alloc | apply pw_below_drewN | apply below_drew1) | exact HB.out))); rintro e w24 ⟨v203, v205, rfl, ho0, ho1, hb⟩; have n0_ := Aside0.mk (below_step (by repeat (first | (with_reducible first | exact HB.out | apply below_alloc | apply pw_below_drewN | apply below_drew1) | exact HB.out)) hb); clear HB; have HB := n0_; clear n0_ hb; obtain ⟨Av203, cv203, ev203⟩ := Kd.R_slice ho0; subst ev203; obtain ⟨Av205, cv205, ev205⟩ := Kd.R_slice ho1; subst ev205; clear ho0 ho1))
                   repeat (go_quiet (fail); try go_wp2)
                   go_ret
                   exact ⟨by first | rfl | (simp [errW_none, errW_some] <;> rfl) | (simp only [← hji41]; first | rfl | (simp [errW_none, errW_some] <;> rfl)) | (simp [*, errW_none, errW_some] <;> rfl), by repeat (first | (with_reducible first | exact HB.out | apply below_alloc | apply pw_below_drewN | apply below_drew1) | exact HB.out)⟩
                  ·rw [if_neg c46] at H
                   have c46b0 : (t201 == 1) = false := beq_eq_false_iff_ne.mpr c46
                   have c46b1 : (t201 != 1) = true := bne_iff_ne.mpr c46
                   obtain rfl := Option.some.inj H
                   go_wp2_with (first | (go_at_call 22; (with_reducible refine (readC.calls x8_1 t183 t184 t185 t186 _ ?side1 A12.out).mono ?_); (case side1 => exact GoodW.below HG.out (by repeat (first | (with_reducible first | exact HB.out | apply below_alloc | apply pw_below_drewN | apply below_drew1) | exact HB.out))); rintro e w22 ⟨v187, v189, rfl, ho0, ho1, hb⟩; have n0_ := Aside0.mk (below_step (by repeat (first | (with_reducible first | exact HB.out | apply below_alloc | apply pw_below_drewN | apply below_drew1) | exact HB.out)) hb); clear HB; have HB := n0_; clear n0_ hb; obtain ⟨Av187, cv187, ev187⟩ := Kd.R_slice ho0; subst ev187; obtain ⟨Av189, cv189, ev189⟩ := Kd.R_slice ho1; subst ev189; clear ho0 ho1) | (go_at_call 22; (with_reducible refine (readC.calls ((x8_1 ++ (⟨#[120]⟩ : ByteArray)) ++ x10_2) t191 t192 t193 t194 _ ?side1 A15.out).mono ?_); (case side1 => exact GoodW.below HG.out (by repeat (first | (with_reducible first | exact HB.out | apply below_alloc | apply pw_below_drewN | apply below_drew1) | exact HB.out))); rintro e w23 ⟨v195, v197, rfl, ho0, ho1, hb⟩; have n0_ := Aside0.mk (below_step (by repeat (first | (with_reducible first | exact HB.out | apply below_alloc | apply pw_below_drewN | apply below_drew1) | exact HB.out)) hb); clear HB; have HB := n0_; clear n0_ hb; obtain ⟨Av195, cv195, ev195⟩ := Kd.R_slice ho0; subst ev195; obtain ⟨Av197, cv197, ev197⟩ := Kd.R_slice ho1; subst ev197; clear ho0 ho1) | (go_at_call 22; (with_reducible refine (readC.calls (⟨#[120, 41]⟩ : ByteArray) t199 t200 t201 t202 _ ?side1 A16.out).mono ?_); (case side1 => exact GoodW.below HG.out (by repeat (first | (with_reducible first | exact HB.out | apply below_alloc | apply pw_below_drewN | apply below_drew1) | exact HB.out))); rintro e w24 ⟨v203, v205, rfl, ho0, ho1, hb⟩; have n0_ := Aside0.mk (below_step (by repeat (first | (with_reducible first | exact HB.out | apply below_alloc | apply pw_below_drewN | apply below_drew1) | exact HB.out)) hb); clear HB; have HB := n0_; clear n0_ hb; obtain ⟨Av203, cv203, ev203⟩ := Kd.R_slice ho0; subst ev203; obtain ⟨Av205, cv205, ev205⟩ := Kd.R_slice ho1; subst ev205; clear ho0 ho1))
                   repeat (go_quiet (fail); try go_wp2)
                   go_ret
                   exact ⟨by first | rfl | (simp [errW_none, errW_some] <;> rfl) | (simp only [← hji41]; first | rfl | (simp [errW_none, errW_some] <;> rfl)) | (simp [*, errW_none, errW_some] <;> rfl), by repeat (first | (with_reducible first | exact HB.out | apply below_alloc | apply pw_below_drewN | apply below_drew1) | exact HB.out)⟩
                 ·rw [if_neg c45] at H
                  have c45b0 : ((t191.length : Int) == (wrap64 ((wrap64 (1 + (wrap64 (Int.tmod a0 61)))) + (Int.tmod (wrap64 (a1)) (wrap64 ((wrap64 (Int.tmod a0 61)) + 1)))))) = false := beq_eq_false_iff_ne.mpr c45
                  have c45b1 : ((t191.length : Int) != (wrap64 ((wrap64 (1 + (wrap64 (Int.tmod a0 61)))) + (Int.tmod (wrap64 (a1)) (wrap64 ((wrap64 (Int.tmod a0 61)) + 1)))))) = true := bne_iff_ne.mpr c45
                  obtain rfl := Option.some.inj H
                  go_wp2_with (first | (go_at_call 22; (with_reducible refine (readC.calls x8_1 t183 t184 t185 t186 _ ?side1 A12.out).mono ?_); (case side1 => exact GoodW.below HG.out (by repeat (first | (with_reducible first | exact HB.out | apply below_alloc | apply pw_below_drewN | apply below_drew1) | exact HB.out))); rintro e w22 ⟨v187, v189, rfl, ho0, ho1, hb⟩; have n0_ := Aside0.mk (below_step (by repeat (first | (with_reducible first | exact HB.out | apply below_alloc | apply pw_below_drewN | apply below_drew1) | exact HB.out)) hb); clear HB; have HB := n0_; clear n0_ hb; obtain ⟨Av187, cv187, ev187⟩ := Kd.R_slice ho0; subst ev187; obtain ⟨Av189, cv189, ev189⟩ := Kd.R_slice ho1; subst ev189; clear ho0 ho1) | (go_at_call 22; (with_reducible refine (readC.calls ((x8_1 ++ (⟨#[120]⟩ : ByteArray)) ++ x10_2) t191 t192 t193 t194 _ ?side1 A15.out).mono ?_); (case side1 => exact GoodW.below HG.out (by repeat (first | (with_reducible first | exact HB.out | apply below_alloc | apply pw_below_drewN | apply below_drew1) | exact HB.out))); rintro e w23 ⟨v195, v197, rfl, ho0, ho1, hb⟩; have n0_ := Aside0.mk (below_step (by repeat (first | (with_reducible first | exact HB.out | apply below_alloc | apply pw_below_drewN | apply below_drew1) | exact HB.out)) hb); clear HB; have HB := n0_; clear n0_ hb; obtain ⟨Av195, cv195, ev195⟩ := Kd.R_slice ho0; subst ev195; obtain ⟨Av197, cv197, ev197⟩ := Kd.R_slice ho1; subst ev197; clear ho0 ho1) | (go_at_call 22; (with_reducible refine (readC.calls (⟨#[120, 41]⟩ : ByteArray) t199 t200 t201 t202 _ ?side1 A16.out).mono ?_); (case side1 => exact GoodW.below HG.out (by repeat (first | (with_reducible first | exact HB.out | apply below_alloc | apply pw_below_drewN | apply below_drew1) | exact HB.out))); rintro e w24 ⟨v203, v205, rfl, ho0, ho1, hb⟩; have n0_ := Aside0.mk (below_step (by repeat (first | (with_reducible first | exact HB.out | apply below_alloc | apply pw_below_drewN | apply below_drew1) | exact HB.out)) hb); clear HB; have HB := n0_; clear n0_ hb; obtain ⟨Av203, cv203, ev203⟩ := Kd.R_slice ho0; subst ev203; obtain ⟨Av205, cv205, ev205⟩ := Kd.R_slice ho1; subst ev205; clear ho0 ho1))
                  repeat (go_quiet (fail); try go_wp2)
                  go_ret
                  exact ⟨by first | rfl | (simp [errW_none, errW_some] <;> rfl) | (simp only [← hji41]; first | rfl | (simp [errW_none, errW_some] <;> rfl)) | (simp [*, errW_none, errW_some] <;> rfl), by repeat (first | (with_reducible first | exact HB.out | apply below_alloc | apply pw_below_drewN | apply below_drew1) | exact HB.out)⟩
                ·rw [if_neg c44] at H
                 have c44b0 : ((t192.length : Int) == 1) = false := beq_eq_false_iff_ne.mpr c44
                 have c44b1 : ((t192.length : Int) != 1) = true := bne_iff_ne.mpr c44
                 obtain rfl := Option.some.inj H
                 go_wp2_with (first | (go_at_call 22; (with_reducible refine (readC.calls x8_1 t183 t184 t185 t186 _ ?side1 A12.out).mono ?_); (case side1 => exact GoodW.below HG.out (by repeat (first | (with_reducible first | exact HB.out | apply below_alloc | apply pw_below_drewN | apply below_drew1) | exact HB.out))); rintro e w22 ⟨v187, v189, rfl, ho0, ho1, hb⟩; have n0_ := Aside0.mk (below_step (by repeat (first | (with_reducible first | exact HB.out | apply below_alloc | apply pw_below_drewN | apply below_drew1) | exact HB.out)) hb); clear HB; have HB := n0_; clear n0_ hb; obtain ⟨Av187, cv187, ev187⟩ := Kd.R_slice ho0; subst ev187; obtain ⟨Av189, cv189, ev189⟩ := Kd.R_slice ho1; subst ev189; clear ho0 ho1) | (go_at_call 22; (with_reducible refine (readC.calls ((x8_1 ++ (⟨#[120]⟩ : ByteArray)) ++ x10_2) t191 t192 t193 t194 _ ?side1 A15.out).mono ?_); (case side1 => exact GoodW.below HG.out (by repeat (first | (with_reducible first | exact HB.out | apply below_alloc | apply pw_below_drewN | apply below_drew1) | exact HB.out))); rintro e w23 ⟨v195, v197, rfl, ho0, ho1, hb⟩; have n0_ := Aside0.mk (below_step (by repeat (first | (with_reducible first | exact HB.out | apply below_alloc | apply pw_below_drewN | apply below_drew1) | exact HB.out)) hb); clear HB; have HB := n0_; clear n0_ hb; obtain ⟨Av195, cv195, ev195⟩ := Kd.R_slice ho0; subst ev195; obtain ⟨Av197, cv197, ev197⟩ := Kd.R_slice ho1; subst ev197; clear ho0 ho1) | (go_at_call 22; (with_reducible refine (readC.calls (⟨#[120, 41]⟩ : ByteArray) t199 t200 t201 t202 _ ?side1 A16.out).mono ?_); (case side1 => exact GoodW.below HG.out (by repeat (first | (with_reducible first | exact HB.out | apply below_alloc | apply pw_below_drewN | apply below_drew1) | exact HB.out))); rintro e w24 ⟨v203, v205, rfl, ho0, ho1, hb⟩; have n0_ := Aside0.mk (below_step (by repeat (first | (with_reducible first | exact HB.out | apply below_alloc | apply pw_below_drewN | apply below_drew1) | exact HB.out)) hb); clear HB; have HB := n0_; clear n0_ hb; obtain ⟨Av203, cv203, ev203⟩ := Kd.R_slice ho0; subst ev203; obtain ⟨Av205, cv205, ev205⟩ := Kd.R_slice ho1; subst ev205; clear ho0 ho1))
                 repeat (go_quiet (fail); try go_wp2)
                 go_ret
                 exact ⟨by first | rfl | (simp [errW_none, errW_some] <;> rfl) | (simp only [← hji41]; first | rfl | (simp [errW_none, errW_some] <;> rfl)) | (simp [*, errW_none, errW_some] <;> rfl), by repeat (first | (with_reducible first | exact HB.out | apply below_alloc | apply pw_below_drewN | apply below_drew1) | exact HB.out)⟩
               ·rw [if_neg c43] at H
                have c43b0 : (t194 == 0) = false := beq_eq_false_iff_ne.mpr c43
                have c43b1 : (t194 != 0) = true := bne_iff_ne.mpr c43
                obtain rfl := Option.some.inj H
                go_wp2_with (first | (go_at_call 22; (with_reducible refine (readC.calls x8_1 t183 t184 t185 t186 _ ?side1 A12.out).mono ?_); (case side1 => exact GoodW.below HG.out (by repeat (first | (with_reducible first | exact HB.out | apply below_alloc | apply pw_below_drewN | apply below_drew1) | exact HB.out))); rintro e w22 ⟨v187, v189, rfl, ho0, ho1, hb⟩; have n0_ := Aside0.mk (below_step (by repeat (first | (with_reducible first | exact HB.out | apply below_alloc | apply pw_below_drewN | apply below_drew1) | exact HB.out)) hb); clear HB; have HB := n0_; clear n0_ hb; obtain ⟨Av187, cv187, ev187⟩ := Kd.R_slice ho0; subst ev187; obtain ⟨Av189, cv189, ev189⟩ := Kd.R_slice ho1; subst ev189; clear ho0 ho1) | (go_at_call 22; (with_reducible refine (readC.calls ((x8_1 ++ (⟨#[120]⟩ : ByteArray)) ++ x10_2) t191 t192 t193 t194 _ ?side1 A15.out).mono ?_); (case side1 => exact GoodW.below HG.out (by repeat (first | (with_reducible first | exact HB.out | apply below_alloc | apply pw_below_drewN | apply below_drew1) | exact HB.out))); rintro e w23 ⟨v195, v197, rfl, ho0, ho1, hb⟩; have n0_ := Aside0.mk (below_step (by repeat (first | (with_reducible first | exact HB.out | apply below_alloc | apply pw_below_drewN | apply below_drew1) | exact HB.out)) hb); clear HB; have HB := n0_; clear n0_ hb; obtain ⟨Av195, cv195, ev195⟩ := Kd.R_slice ho0; subst ev195; obtain ⟨Av197, cv197, ev197⟩ := Kd.R_slice ho1; subst ev197; clear ho0 ho1) | (go_at_call 22; (with_reducible refine (readC.calls (⟨#[120, 41]⟩ : ByteArray) t199 t200 t201 t202 _ ?side1 A16.out).mono ?_); (case side1 => exact GoodW.below HG.out (by repeat (first | (with_reducible first | exact HB.out | apply below_alloc | apply pw_below_drewN | apply below_drew1) | exact HB.out))); rintro e w24 ⟨v203, v205, rfl, ho0, ho1, hb⟩; have n0_ := Aside0.mk (below_step (by repeat (first | (with_reducible first | exact HB.out | apply below_alloc | apply pw_below_drewN | apply below_drew1) | exact HB.out)) hb); clear HB; have HB := n0_; clear n0_ hb; obtain ⟨Av203, cv203, ev203⟩ := Kd.R_slice ho0; subst ev203; obtain ⟨Av205, cv205, ev205⟩ := Kd.R_slice ho1; subst ev205; clear ho0 ho1))
                repeat (go_quiet (fail); try go_wp2)
                go_ret
                exact ⟨by first | rfl | (simp [errW_none, errW_some] <;> rfl) | (simp only [← hji41]; first | rfl | (simp [errW_none, errW_some] <;> rfl)) | (simp [*, errW_none, errW_some] <;> rfl), by repeat (first | (with_reducible first | exact HB.out | apply below_alloc | apply pw_below_drewN | apply below_drew1) | exact HB.out)⟩
              ·rw [if_neg c42] at H
               have c42b0 : (t185 == (ji41)) = false := beq_eq_false_iff_ne.mpr c42
               have c42b1 : (t185 != (ji41)) = true := bne_iff_ne.mpr c42
               obtain rfl := Option.some.inj H
               go_wp2_with (first | (go_at_call 22; (with_reducible refine (readC.calls x8_1 t183 t184 t185 t186 _ ?side1 A12.out).mono ?_); (case side1 => exact GoodW.below HG.out (by repeat (first | (with_reducible first | exact HB.out | apply below_alloc | apply pw_below_drewN | apply below_drew1) | exact HB.out))); rintro e w22 ⟨v187, v189, rfl, ho0, ho1, hb⟩; have n0_ := Aside0.mk (below_step (by repeat (first | (with_reducible first | exact HB.out | apply below_alloc | apply pw_below_drewN | apply below_drew1) | exact HB.out)) hb); clear HB; have HB := n0_; clear n0_ hb; obtain ⟨Av187, cv187, ev187⟩ := Kd.R_slice ho0; subst ev187; obtain ⟨Av189, cv189, ev189⟩ := Kd.R_slice ho1; subst ev189; clear ho0 ho1) | (go_at_call 22; (with_reducible refine (readC.calls ((x8_1 ++ (⟨#[120]⟩ : ByteArray)) ++ x10_2) t191 t192 t193 t194 _ ?side1 A15.out).mono ?_); (case side1 => exact GoodW.below HG.out (by repeat (first | (with_reducible first | exact HB.out | apply below_alloc | apply pw_below_drewN | apply below_drew1) | exact HB.out))); rintro e w23 ⟨v195, v197, rfl, ho0, ho1, hb⟩; have n0_ := Aside0.mk (below_step (by repeat (first | (with_reducible first | exact HB.out | apply below_alloc | apply pw_below_drewN | apply below_drew1) | exact HB.out)) hb); clear HB; have HB := n0_; clear n0_ hb; obtain ⟨Av195, cv195, ev195⟩ := Kd.R_slice ho0; subst ev195; obtain ⟨Av197, cv197, ev197⟩ := Kd.R_slice ho1; subst ev197; clear ho0 ho1) | (go_at_call 22; (with_reducible refine (readC.calls (⟨#[120, 41]⟩ : ByteArray) t199 t200 t201 t202 _ ?side1 A16.out).mono ?_); (case side1 => exact GoodW.below HG.out (by repeat (first | (with_reducible first | exact HB.out | apply below_alloc | apply pw_below_drewN | apply below_drew1) | exact HB.out))); rintro e w24 ⟨v203, v205, rfl, ho0, ho1, hb⟩; have n0_ := Aside0.mk (below_step (by repeat (first | (with_reducible first | exact HB.out | apply below_alloc | apply pw_below_drewN | apply below_drew1) | exact HB.out)) hb); clear HB; have HB := n0_; clear n0_ hb; obtain ⟨Av203, cv203, ev203⟩ := Kd.R_slice ho0; subst ev203; obtain ⟨Av205, cv205, ev205⟩ := Kd.R_slice ho1; subst ev205; clear ho0 ho1))
               repeat (go_quiet (fail); try go_wp2)
               go_ret
               exact ⟨by first | rfl | (simp [errW_none, errW_some] <;> rfl) | (simp only [← hji41]; first | rfl | (simp [errW_none, errW_some] <;> rfl)) | (simp [*, errW_none, errW_some] <;> rfl), by repeat (first | (with_reducible first | exact HB.out | apply below_alloc | apply pw_below_drewN | apply below_drew1) | exact HB.out)⟩
             ·rw [if_neg c40] at H
              have c40b0 : (t186 == 0) = false := beq_eq_false_iff_ne.mpr c40
              have c40b1 : (t186 != 0) = true := bne_iff_ne.mpr c40
              obtain rfl := Option.some.inj H
              go_wp2_with (first | (go_at_call 22; (with_reducible refine (readC.calls x8_1 t183 t184 t185 t186 _ ?side1 A12.out).mono ?_); (case side1 => exact GoodW.below HG.out (by repeat (first | (with_reducible first | exact HB.out | apply below_alloc | apply pw_below_drewN | apply below_drew1) | exact HB.out))); rintro e w22 ⟨v187, v189, rfl, ho0, ho1, hb⟩; have n0_ := Aside0.mk (below_step (by repeat (first | (with_reducible first | exact HB.out | apply below_alloc | apply pw_below_drewN | apply below_drew1) | exact HB.out)) hb); clear HB; have HB := n0_; clear n0_ hb; obtain ⟨Av187, cv187, ev187⟩ := Kd.R_slice ho0; subst ev187; obtain ⟨Av189, cv189, ev189⟩ := Kd.R_slice ho1; subst ev189; clear ho0 ho1) | (go_at_call 22; (with_reducible refine (readC.calls ((x8_1 ++ (⟨#[120]⟩ : ByteArray)) ++ x10_2) t191 t192 t193 t194 _ ?side1 A15.out).mono ?_); (case side1 => exact GoodW.below HG.out (by repeat (first | (with_reducible first | exact HB.out | apply below_alloc | apply pw_below_drewN | apply below_drew1) | exact HB.out))); rintro e w23 ⟨v195, v197, rfl, ho0, ho1, hb⟩; have n0_ := Aside0.mk (below_step (by repeat (first | (with_reducible first | exact HB.out | apply below_alloc | apply pw_below_drewN | apply below_drew1) | exact HB.out)) hb); clear HB; have HB := n0_; clear n0_ hb; obtain ⟨Av195, cv195, ev195⟩ := Kd.R_slice ho0; subst ev195; obtain ⟨Av197, cv197, ev197⟩ := Kd.R_slice ho1; subst ev197; clear ho0 ho1) | (go_at_call 22; (with_reducible refine (readC.calls (⟨#[120, 41]⟩ : ByteArray) t199 t200 t201 t202 _ ?side1 A16.out).mono ?_); (case side1 => exact GoodW.below HG.out (by repeat (first | (with_reducible first | exact HB.out | apply below_alloc | apply pw_below_drewN | apply below_drew1) | exact HB.out))); rintro e w24 ⟨v203, v205, rfl, ho0, ho1, hb⟩; have n0_ := Aside0.mk (below_step (by repeat (first | (with_reducible first | exact HB.out | apply below_alloc | apply pw_below_drewN | apply below_drew1) | exact HB.out)) hb); clear HB; have HB := n0_; clear n0_ hb; obtain ⟨Av203, cv203, ev203⟩ := Kd.R_slice ho0; subst ev203; obtain ⟨Av205, cv205, ev205⟩ := Kd.R_slice ho1; subst ev205; clear ho0 ho1))
              repeat (go_quiet (fail); try go_wp2)
              go_ret
              exact ⟨by first | rfl | (simp [errW_none, errW_some] <;> rfl) | (simp [*, errW_none, errW_some] <;> rfl), by repeat (first | (with_reducible first | exact HB.out | apply below_alloc | apply pw_below_drewN | apply below_drew1) | exact HB.out)⟩
            ·replace c39 := Bool.eq_false_iff.mpr c39
             subst c39
             have H1 : (some false) = some r := by rw [if_neg (show ¬ (false = true) by decide)] at H; exact H
             clear H
             have H := H1
             clear H1
             obtain rfl := Option.some.inj H
             go_wp2_with (first | (go_at_call 22; (with_reducible refine (readC.calls x8_1 t183 t184 t185 t186 _ ?side1 A12.out).mono ?_); (case side1 => exact GoodW.below HG.out (by repeat (first | (with_reducible first | exact HB.out | apply below_alloc | apply pw_below_drewN | apply below_drew1) | exact HB.out))); rintro e w22 ⟨v187, v189, rfl, ho0, ho1, hb⟩; have n0_ := Aside0.mk (below_step (by repeat (first | (with_reducible first | exact HB.out | apply below_alloc | apply pw_below_drewN | apply below_drew1) | exact HB.out)) hb); clear HB; have HB := n0_; clear n0_ hb; obtain ⟨Av187, cv187, ev187⟩ := Kd.R_slice ho0; subst ev187; obtain ⟨Av189, cv189, ev189⟩ := Kd.R_slice ho1; subst ev189; clear ho0 ho1) | (go_at_call 22; (with_reducible refine (readC.calls ((x8_1 ++ (⟨#[120]⟩ : ByteArray)) ++ x10_2) t191 t192 t193 t194 _ ?side1 A15.out).mono ?_); (case side1 => exact GoodW.below HG.out (by repeat (first | (with_reducible first | exact HB.out | apply below_alloc | apply pw_below_drewN | apply below_drew1) | exact HB.out))); rintro e w23 ⟨v195, v197, rfl, ho0, ho1, hb⟩; have n0_ := Aside0.mk (below_step (by repeat (first | (with_reducible first | exact HB.out | apply below_alloc | apply pw_below_drewN | apply below_drew1) | exact HB.out)) hb); clear HB; have HB := n0_; clear n0_ hb; obtain ⟨Av195, cv195, ev195⟩ := Kd.R_slice ho0; subst ev195; obtain ⟨Av197, cv197, ev197⟩ := Kd.R_slice ho1; subst ev197; clear ho0 ho1) | (go_at_call 22; (with_reducible refine (readC.calls (⟨#[120, 41]⟩ : ByteArray) t199 t200 t201 t202 _ ?side1 A16.out).mono ?_); (case side1 => exact GoodW.below HG.out (by repeat (first | (with_reducible first | exact HB.out | apply below_alloc | apply pw_below_drewN | apply below_drew1) | exact HB.out))); rintro e w24 ⟨v203, v205, rfl, ho0, ho1, hb⟩; have n0_ := Aside0.mk (below_step (by repeat (first | (with_reducible first | exact HB.out | apply below_alloc | apply pw_below_drewN | apply below_drew1) | exact HB.out)) hb); clear HB; have HB := n0_; clear n0_ hb; obtain ⟨Av203, cv203, ev203⟩ := Kd.R_slice ho0; subst ev203; obtain ⟨Av205, cv205, ev205⟩ := Kd.R_slice ho1; subst ev205; clear ho0 ho1))
             repeat (go_quiet (fail); try go_wp2)
             go_ret
             exact ⟨by first | rfl | (simp [errW_none, errW_some] <;> rfl) | (simp [*, errW_none, errW_some] <;> rfl), by repeat (first | (with_reducible first | exact HB.out | apply below_alloc | apply pw_below_drewN | apply below_drew1) | exact HB.out)⟩
           ·rw [if_neg c38] at H
            have c38b0 : ((wrap64 (Int.tmod a0 61)) == 0) = false := beq_eq_false_iff_ne.mpr c38
            have c38b1 : ((wrap64 (Int.tmod a0 61)) != 0) = true := bne_iff_ne.mpr c38
            by_cases c78 : (Int.tmod (wrap64 (a1)) (wrap64 ((wrap64 (Int.tmod a0 61)) + 1))) = (wrap64 (Int.tmod a0 61))
            ·rw [if_pos c78] at H
             have c78b0 : ((Int.tmod (wrap64 (a1)) (wrap64 ((wrap64 (Int.tmod a0 61)) + 1))) == (wrap64 (Int.tmod a0 61))) = true := beq_iff_eq.mpr c78
             have c78b1 : ((Int.tmod (wrap64 (a1)) (wrap64 ((wrap64 (Int.tmod a0 61)) + 1))) != (wrap64 (Int.tmod a0 61))) = false := bne_eq_false_iff_eq.mpr c78
             clear c78
             by_cases c79 : t182 = true
             ·subst c79
              have H1 : (if t186 = 63 then (if t185 = (mx (wrap64 ((wrap64 (Int.tmod a0 61)) - 1)) 0) then (if t194 = 0 then (if (t192.length : Int) = 1 then (if (t191.length : Int) = (wrap64 ((wrap64 (1 + (wrap64 (Int.tmod a0 61)))) + (Int.tmod (wrap64 (a1)) (wrap64 ((wrap64 (Int.tmod a0 61)) + 1))))) then (if t201 = 1 then (some (t202 == 61)) else (some false)) else (some false)) else (some false)) else (some false)) else (some false)) else (some false)) = some r := by rw [if_pos rfl] at H; exact H
              clear H
              have H := H1
              clear H1
              by_cases c80 : t186 = 63
              ·rw [if_pos c80] at H
               have c80b0 : (t186 == 63) = true := beq_iff_eq.mpr c80
               have c80b1 : (t186 != 63) = false := bne_eq_false_iff_eq.mpr c80
               clear c80
               obtain ⟨ji81, hji81⟩ : ∃ j_ : Int, (mx (wrap64 ((wrap64 (Int.tmod a0 61)) - 1)) 0) = j_ := ⟨_, rfl⟩
               replace H : (if t185 = (ji81) then (if t194 = 0 then (if (t192.length : Int) = 1 then (if (t191.length : Int) = (wrap64 ((wrap64 (1 + (wrap64 (Int.tmod a0 61)))) + (Int.tmod (wrap64 (a1)) (wrap64 ((wrap64 (Int.tmod a0 61)) + 1))))) then (if t201 = 1 then (some (t202 == 61)) else (some false)) else (some false)) else (some false)) else (some false)) else (some false)) = some r := by first | (rw [hji81] at H; exact H) | (simp only [hji81] at H ⊢; exact H)
               (try rw [hji81] at A12)
               (try rw [hji81] at A15)
               (try rw [hji81] at A16)
               have hji81_ : (if (wrap64 ((wrap64 (Int.tmod a0 61)) - 1)) < 0 then 0 else (wrap64 ((wrap64 (Int.tmod a0 61)) - 1))) = ji81 := hji81
               by_cases c82 : t185 = (ji81)
               ·rw [if_pos c82] at H
                have c82b0 : (t185 == (ji81)) = true := beq_iff_eq.mpr c82
                have c82b1 : (t185 != (ji81)) = false := bne_eq_false_iff_eq.mpr c82
                clear c82
                by_cases c83 : t194 = 0
                ·rw [if_pos c83] at H
                 have c83b0 : (t194 == 0) = true := beq_iff_eq.mpr c83
                 have c83b1 : (t194 != 0) = false := bne_eq_false_iff_eq.mpr c83
                 clear c83
                 by_cases c84 : (t192.length : Int) = 1
                 ·rw [if_pos c84] at H
                  have c84b0 : ((t192.length : Int) == 1) = true := beq_iff_eq.mpr c84
                  have c84b1 : ((t192.length : Int) != 1) = false := bne_eq_false_iff_eq.mpr c84
                  clear c84
                  by_cases c85 : (t191.length : Int) = (wrap64 ((wrap64 (1 + (wrap64 (Int.tmod a0 61)))) + (Int.tmod (wrap64 (a1)) (wrap64 ((wrap64 (Int.tmod a0 61)) + 1)))))
                  ·rw [if_pos c85] at H
                   have c85b0 : ((t191.length : Int) == (wrap64 ((wrap64 (1 + (wrap64 (Int.tmod a0 61)))) + (Int.tmod (wrap64 (a1)) (wrap64 ((wrap64 (Int.tmod a0 61)) + 1)))))) = true := beq_iff_eq.mpr c85
                   have c85b1 : ((t191.length : Int) != (wrap64 ((wrap64 (1 + (wrap64 (Int.tmod a0 61)))) + (Int.tmod (wrap64 (a1)) (wrap64 ((wrap64 (Int.tmod a0 61)) + 1)))))) = false := bne_eq_false_iff_eq.mpr c85
                   clear c85
                   by_cases c86 : t201 = 1
                   ·rw [if_pos c86] at H
                    have c86b0 : (t201 == 1) = true := beq_iff_eq.mpr c86
                    have c86b1 : (t201 != 1) = false := bne_eq_false_iff_eq.mpr c86
                    clear c86
                    obtain rfl := Option.some.inj H
                    go_wp2_with (first | (go_at_call 22; (with_reducible refine (readC.calls x8_1 t183 t184 t185 t186 _ ?side1 A12.out).mono ?_); (case side1 => exact GoodW.below HG.out (by repeat (first | (with_reducible first | exact HB.out | apply below_alloc | apply pw_below_drewN | apply below_drew1) | exact HB.out))); rintro e w22 ⟨v187, v189, rfl, ho0, ho1, hb⟩; have n0_ := Aside0.mk (below_step (by repeat (first | (with_reducible first | exact HB.out | apply below_alloc | apply pw_below_drewN | apply below_drew1) | exact HB.out)) hb); clear HB; have HB := n0_; clear n0_ hb; obtain ⟨Av187, cv187, ev187⟩ := Kd.R_slice ho0; subst ev187; obtain ⟨Av189, cv189, ev189⟩ := Kd.R_slice ho1; subst ev189; clear ho0 ho1) | (go_at_call 22; (with_reducible refine (readC.calls ((x8_1 ++ (⟨#[120]⟩ : ByteArray)) ++ x10_2) t191 t192 t193 t194 _ ?side1 A15.out).mono ?_); (case side1 => exact GoodW.below HG.out (by repeat (first | (with_reducible first | exact HB.out | apply below_alloc | apply pw_below_drewN | apply below_drew1) | exact HB.out))); rintro e w23 ⟨v195, v197, rfl, ho0, ho1, hb⟩; have n0_ := Aside0.mk (below_step (by repeat (first | (with_reducible first | exact HB.out | apply below_alloc | apply pw_below_drewN | apply below_drew1) | exact HB.out)) hb); clear HB; have HB := n0_; clear n0_ hb; obtain ⟨Av195, cv195, ev195⟩ := Kd.R_slice ho0; subst ev195; obtain ⟨Av197, cv197, ev197⟩ := Kd.R_slice ho1; subst ev197; clear ho0 ho1) | (go_at_call 22; (with_reducible refine (readC.calls (⟨#[120, 41]⟩ : ByteArray) t199 t200 t201 t202 _ ?side1 A16.out).mono ?_); (case side1 => exact GoodW.below HG.out (by repeat (first | (with_reducible first | exact HB.out | apply below_alloc | apply pw_below_drewN | apply below_drew1) | exact HB.out))); rintro e w24 ⟨v203, v205, rfl, ho0, ho1, hb⟩; have n0_ := Aside0.mk (below_step (by repeat (first | (with_reducible first | exact HB.out | apply below_alloc | apply pw_below_drewN | apply below_drew1) | exact HB.out)) hb); clear HB; have HB := n0_; clear n0_ hb; obtain ⟨Av203, cv203, ev203⟩ := Kd.R_slice ho0; subst ev203; obtain ⟨Av205, cv205, ev205⟩ := Kd.R_slice ho1; subst ev205; clear ho0 ho1))
                    repeat (go_quiet (fail); try go_wp2)
                    go_ret
                    exact ⟨by first | rfl | (simp [errW_none, errW_some] <;> rfl) | (simp only [← hji81]; first | rfl | (simp [errW_none, errW_some] <;> rfl)) | (simp [*, errW_none, errW_some] <;> rfl), by repeat (first | (with_reducible first | exact HB.out | apply below_alloc | apply pw_below_drewN | apply below_drew1) | exact HB.out)⟩
                   ·rw [if_neg c86] at H
                    have c86b0 : (t201 == 1) = false := beq_eq_false_iff_ne.mpr c86
                    have c86b1 : (t201 != 1) = true := bne_iff_ne.mpr c86
                    obtain rfl := Option.some.inj H
                    go_wp2_with (first | (go_at_call 22; (with_reducible refine (readC.calls x8_1 t183 t184 t185 t186 _ ?side1 A12.out).mono ?_); (case side1 => exact GoodW.below HG.out (by repeat (first | (with_reducible first | exact HB.out | apply below_alloc | apply pw_below_drewN | apply below_drew1) | exact HB.out))); rintro e w22 ⟨v187, v189, rfl, ho0, ho1, hb⟩; have n0_ := Aside0.mk (below_step (by repeat (first | (with_reducible first | exact HB.out | apply below_alloc | apply pw_below_drewN | apply below_drew1) | exact HB.out)) hb); clear HB; have HB := n0_; clear n0_ hb; obtain ⟨Av187, cv187, ev187⟩ := Kd.R_slice ho0; subst ev187; obtain ⟨Av189, cv189, ev189⟩ := Kd.R_slice ho1; subst ev189; clear ho0 ho1) | (go_at_call 22; (with_reducible refine (readC.calls ((x8_1 ++ (⟨#[120]⟩ : ByteArray)) ++ x10_2) t191 t192 t193 t194 _ ?side1 A15.out).mono ?_); (case side1 => exact GoodW.below HG.out (by repeat (first | (with_reducible first | exact HB.out | apply below_alloc | apply pw_below_drewN | apply below_drew1) | exact HB.out))); rintro e w23 ⟨v195, v197, rfl, ho0, ho1, hb⟩; have n0_ := Aside0.mk (below_step (by repeat (first | (with_reducible first | exact HB.out | apply below_alloc | apply pw_below_drewN | apply below_drew1) | exact HB.out)) hb); clear HB; have HB := n0_; clear n0_ hb; obtain ⟨Av195, cv195, ev195⟩ := Kd.R_slice ho0; subst ev195; obtain ⟨Av197, cv197, ev197⟩ := Kd.R_slice ho1; subst ev197; clear ho0 ho1) | (go_at_call 22; (with_reducible refine (readC.calls (⟨#[120, 41]⟩ : ByteArray) t199 t200 t201 t202 _ ?side1 A16.out).mono ?_); (case side1 => exact GoodW.below HG.out (by repeat (first | (with_reducible first | exact HB.out | apply below_alloc | apply pw_below_drewN | apply below_drew1) | exact HB.out))); rintro e w24 ⟨v203, v205, rfl, ho0, ho1, hb⟩; have n0_ := Aside0.mk (below_step (by repeat (first | (with_reducible first | exact HB.out | apply below_alloc | apply pw_below_drewN | apply below_drew1) | exact HB.out)) hb); clear HB; have HB := n0_; clear n0_ hb; obtain ⟨Av203, cv203, ev203⟩ := Kd.R_slice ho0; subst ev203; obtain ⟨Av205, cv205, ev205⟩ := Kd.R_slice ho1; subst ev205; clear ho0 ho1))
                    repeat (go_quiet (fail); try go_wp2)
                    go_ret
                    exact ⟨by first | rfl | (simp [errW_none, errW_some] <;> rfl) | (simp only [← hji81]; first | rfl | (simp [errW_none, errW_some] <;> rfl)) | (simp [*, errW_none, errW_some] <;> rfl), by repeat (first | (with_reducible first | exact HB.out | apply below_alloc | apply pw_below_drewN | apply below_drew1) | exact HB.out)⟩
                  ·rw [if_neg c85] at H
                   have c85b0 : ((t191.length : Int) == (wrap64 ((wrap64 (1 + (wrap64 (Int.tmod a0 61)))) + (Int.tmod (wrap64 (a1)) (wrap64 ((wrap64 (Int.tmod a0 61)) + 1)))))) = false := beq_eq_false_iff_ne.mpr c85
                   have c85b1 : ((t191.length : Int) != (wrap64 ((wrap64 (1 + (wrap64 (Int.tmod a0 61)))) + (Int.tmod (wrap64 (a1)) (wrap64 ((wrap64 (Int.tmod a0 61)) + 1)))))) = true := bne_iff_ne.mpr c85
                   obtain rfl := Option.some.inj H
                   go_wp2_with (first | (go_at_call 22; (with_reducible refine (readC.calls x8_1 t183 t184 t185 t186 _ ?side1 A12.out).mono ?_); (case side1 => exact GoodW.below HG.out (by repeat (first | (with_reducible first | exact HB.out | apply below_alloc | apply pw_below_drewN | apply below_drew1) | exact HB.out))); rintro e w22 ⟨v187, v189, rfl, ho0, ho1, hb⟩; have n0_ := Aside0.mk (below_step (by repeat (first | (with_reducible first | exact HB.out | apply below_alloc | apply pw_below_drewN | apply below_drew1) | exact HB.out)) hb); clear HB; have HB := n0_; clear n0_ hb; obtain ⟨Av187, cv187, ev187⟩ := Kd.R_slice ho0; subst ev187; obtain ⟨Av189, cv189, ev189⟩ := Kd.R_slice ho1; subst ev189; clear ho0 ho1) | (go_at_call 22; (with_reducible refine (readC.calls ((x8_1 ++ (⟨#[120]⟩ : ByteArray)) ++ x10_2) t191 t192 t193 t194 _ ?side1 A15.out).mono ?_); (case side1 => exact GoodW.below HG.out (by repeat (first | (with_reducible first | exact HB.out | apply below_alloc | apply pw_below_drewN | apply below_drew1) | exact HB.out))); rintro e w23 ⟨v195, v197, rfl, ho0, ho1, hb⟩; have n0_ := Aside0.mk (below_step (by repeat (first | (with_reducible first | exact HB.out | apply below_alloc | apply pw_below_drewN | apply below_drew1) | exact HB.out)) hb); clear HB; have HB := n0_; clear n0_ hb; obtain ⟨Av195, cv195, ev195⟩ := Kd.R_slice ho0; subst ev195; obtain ⟨Av197, cv197, ev197⟩ := Kd.R_slice ho1; subst ev197; clear ho0 ho1) | (go_at_call 22; (with_reducible refine (readC.calls (⟨#[120, 41]⟩ : ByteArray) t199 t200 t201 t202 _ ?side1 A16.out).mono ?_); (case side1 => exact GoodW.below HG.out (by repeat (first | (with_reducible first | exact HB.out | apply below_alloc | apply pw_below_drewN | apply below_drew1) | exact HB.out))); rintro e w24 ⟨v203, v205, rfl, ho0, ho1, hb⟩; have n0_ := Aside0.mk (below_step (by repeat (first | (with_reducible first | exact HB.out | apply below_alloc | apply pw_below_drewN | apply below_drew1) | exact HB.out)) hb); clear HB; have HB := n0_; clear n0_ hb; obtain ⟨Av203, cv203, ev203⟩ := Kd.R_slice ho0; subst ev203; obtain ⟨Av205, cv205, ev205⟩ := Kd.R_slice ho1; subst ev205; clear ho0 ho1))
                   repeat (go_quiet (fail); try go_wp2)
                   go_ret
                   exact ⟨by first | rfl | (simp [errW_none, errW_some] <;> rfl) | (simp only [← hji81]; first | rfl | (simp [errW_none, errW_some] <;> rfl)) | (simp [*, errW_none, errW_some] <;> rfl), by repeat (first | (with_reducible first | exact HB.out | apply below_alloc | apply pw_below_drewN | apply below_drew1) | exact HB.out)⟩
                 ·rw [if_neg c84] at H
                  have c84b0 : ((t192.length : Int) == 1) = false := beq_eq_false_iff_ne.mpr c84
                  have c84b1 : ((t192.length : Int) != 1) = true := bne_iff_ne.mpr c84
                  obtain rfl := Option.some.inj H
                  go_wp2_with (first | (go_at_call 22; (with_reducible refine (readC.calls x8_1 t183 t184 t185 t186 _ ?side1 A12.out).mono ?_); (case side1 => exact GoodW.below HG.out (by repeat (first | (with_reducible first | exact HB.out | apply below_alloc | apply pw_below_drewN | apply below_drew1) | exact HB.out))); rintro e w22 ⟨v187, v189, rfl, ho0, ho1, hb⟩; have n0_ := Aside0.mk (below_step (by repeat (first | (with_reducible first | exact HB.out | apply below_alloc | apply pw_below_drewN | apply below_drew1) | exact HB.out)) hb); clear HB; have HB := n0_; clear n0_ hb; obtain ⟨Av187, cv187, ev187⟩ := Kd.R_slice ho0; subst ev187; obtain ⟨Av189, cv189, ev189⟩ := Kd.R_slice ho1; subst ev189; clear ho0 ho1) | (go_at_call 22; (with_reducible refine (readC.calls ((x8_1 ++ (⟨#[120]⟩ : ByteArray)) ++ x10_2) t191 t192 t193 t194 _ ?side1 A15.out).mono ?_); (case side1 => exact GoodW.below HG.out (by repeat (first | (with_reducible first | exact HB.out | apply below_alloc | apply pw_below_drewN | apply below_drew1) | exact HB.out))); rintro e w23 ⟨v195, v197, rfl, ho0, ho1, hb⟩; have n0_ := Aside0.mk (below_step (by repeat (first | (with_reducible first | exact HB.out | apply below_alloc | apply pw_below_drewN | apply below_drew1) | exact HB.out)) hb); clear HB; have HB := n0_; clear n0_ hb; obtain ⟨Av195, cv195, ev195⟩ := Kd.R_slice ho0; subst ev195; obtain ⟨Av197, cv197, ev197⟩ := Kd.R_slice ho1; subst ev197; clear ho0 ho1) | (go_at_call 22; (with_reducible refine (readC.calls (⟨#[120, 41]⟩ : ByteArray) t199 t200 t201 t202 _ ?side1 A16.out).mono ?_); (case side1 => exact GoodW.below HG.out (by repeat (first | (with_reducible first | exact HB.out | apply below_alloc | apply pw_below_drewN | apply below_drew1) | exact HB.out))); rintro e w24 ⟨v203, v205, rfl, ho0, ho1, hb⟩; have n0_ := Aside0.mk (below_step (by repeat (first | (with_reducible first | exact HB.out | apply below_alloc | apply pw_below_drewN | apply below_drew1) | exact HB.out)) hb); clear HB; have HB := n0_; clear n0_ hb; obtain ⟨Av203, cv203, ev203⟩ := Kd.R_slice ho0; subst ev203; obtain ⟨Av205, cv205, ev205⟩ := Kd.R_slice ho1; subst ev205; clear ho0 ho1))
                  repeat (go_quiet (fail); try go_wp2)
                  go_ret
                  exact ⟨by first | rfl | (simp [errW_none, errW_some] <;> rfl) | (simp only [← hji81]; first | rfl | (simp [errW_none, errW_some] <;> rfl)) | (simp [*, errW_none, errW_some] <;> rfl), by repeat (first | (with_reducible first | exact HB.out | apply below_alloc | apply pw_below_drewN | apply below_drew1) | exact HB.out)⟩
                ·rw [if_neg c83] at H
                 have c83b0 : (t194 == 0) = false := beq_eq_false_iff_ne.mpr c83
                 have c83b1 : (t194 != 0) = true := bne_iff_ne.mpr c83
                 obtain rfl := Option.some.inj H
                 go_wp2_with (first | (go_at_call 22; (with_reducible refine (readC.calls x8_1 t183 t184 t185 t186 _ ?side1 A12.out).mono ?_); (case side1 => exact GoodW.below HG.out (by repeat (first | (with_reducible first | exact HB.out | apply below_alloc | apply pw_below_drewN | apply below_drew1) | exact HB.out))); rintro e w22 ⟨v187, v189, rfl, ho0, ho1, hb⟩; have n0_ := Aside0.mk (below_step (by repeat (first | (with_reducible first | exact HB.out | apply below_alloc | apply pw_below_drewN | apply below_drew1) | exact HB.out)) hb); clear HB; have HB := n0_; clear n0_ hb; obtain ⟨Av187, cv187, ev187⟩ := Kd.R_slice ho0; subst ev187; obtain ⟨Av189, cv189, ev189⟩ := Kd.R_slice ho1; subst ev189; clear ho0 ho1) | (go_at_call 22; (with_reducible refine (readC.calls ((x8_1 ++ (⟨#[120]⟩ : ByteArray)) ++ x10_2) t191 t192 t193 t194 _ ?side1 A15.out).mono ?_); (case side1 => exact GoodW.below HG.out (by repeat (first | (with_reducible first | exact HB.out | apply below_alloc | apply pw_below_drewN | apply below_drew1) | exact HB.out))); rintro e w23 ⟨v195, v197, rfl, ho0, ho1, hb⟩; have n0_ := Aside0.mk (below_step (by repeat (first | (with_reducible first | exact HB.out | apply below_alloc | apply pw_below_drewN | apply below_drew1) | exact HB.out)) hb); clear HB; have HB := n0_; clear n0_ hb; obtain ⟨Av195, cv195, ev195⟩ := Kd.R_slice ho0; subst ev195; obtain ⟨Av197, cv197, ev197⟩ := Kd.R_slice ho1; subst ev197; clear ho0 ho1) | (go_at_call 22; (with_reducible refine (readC.calls (⟨#[120, 41]⟩ : ByteArray) t199 t200 t201 t202 _ ?side1 A16.out).mono ?_); (case side1 => exact GoodW.below HG.out (by repeat (first | (with_reducible first | exact HB.out | apply below_alloc | apply pw_below_drewN | apply below_drew1) | exact HB.out))); rintro e w24 ⟨v203, v205, rfl, ho0, ho1, hb⟩; have n0_ := Aside0.mk (below_step (by repeat (first | (with_reducible first | exact HB.out | apply below_alloc | apply pw_below_drewN | apply below_drew1) | exact HB.out)) hb); clear HB; have HB := n0_; clear n0_ hb; obtain ⟨Av203, cv203, ev203⟩ := Kd.R_slice ho0; subst ev203; obtain ⟨Av205, cv205, ev205⟩ := Kd.R_slice ho1; subst ev205; clear ho0 ho1))
                 repeat (go_quiet (fail); try go_wp2)
                 go_ret
                 exact ⟨by first | rfl | (simp [errW_none, errW_some] <;> rfl) | (simp only [← hji81]; first | rfl | (simp [errW_none, errW_some] <;> rfl)) | (simp [*, errW_none, errW_some] <;> rfl), by repeat (first | (with_reducible first | exact HB.out | apply below_alloc | apply pw_below_drewN | apply below_drew1) | exact HB.out)⟩
               ·rw [if_neg c82] at H
                have c82b0 : (t185 == (ji81)) = false := beq_eq_false_iff_ne.mpr c82
                have c82b1 : (t185 != (ji81)) = true := bne_iff_ne.mpr c82
                obtain rfl := Option.some.inj H
                go_wp2_with (first | (go_at_call 22; (with_reducible refine (readC.calls x8_1 t183 t184 t185 t186 _ ?side1 A12.out).mono ?_); (case side1 => exact GoodW.below HG.out (by repeat (first | (with_reducible first | exact HB.out | apply below_alloc | apply pw_below_drewN | apply below_drew1) | exact HB.out))); rintro e w22 ⟨v187, v189, rfl, ho0, ho1, hb⟩; have n0_ := Aside0.mk (below_step (by repeat (first | (with_reducible first | exact HB.out | apply below_alloc | apply pw_below_drewN | apply below_drew1) | exact HB.out)) hb); clear HB; have HB := n0_; clear n0_ hb; obtain ⟨Av187, cv187, ev187⟩ := Kd.R_slice ho0; subst ev187; obtain ⟨Av189, cv189, ev189⟩ := Kd.R_slice ho1; subst ev189; clear ho0 ho1) | (go_at_call 22; (with_reducible refine (readC.calls ((x8_1 ++ (⟨#[120]⟩ : ByteArray)) ++ x10_2) t191 t192 t193 t194 _ ?side1 A15.out).mono ?_); (case side1 => exact GoodW.below HG.out (by repeat (first | (with_reducible first | exact HB.out | apply below_alloc | apply pw_below_drewN | apply below_drew1) | exact HB.out))); rintro e w23 ⟨v195, v197, rfl, ho0, ho1, hb⟩; have n0_ := Aside0.mk (below_step (by repeat (first | (with_reducible first | exact HB.out | apply below_alloc | apply pw_below_drewN | apply below_drew1) | exact HB.out)) hb); clear HB; have HB := n0_; clear n0_ hb; obtain ⟨Av195, cv195, ev195⟩ := Kd.R_slice ho0; subst ev195; obtain ⟨Av197, cv197, ev197⟩ := Kd.R_slice ho1; subst ev197; clear ho0 ho1) | (go_at_call 22; (with_reducible refine (readC.calls (⟨#[120, 41]⟩ : ByteArray) t199 t200 t201 t202 _ ?side1 A16.out).mono ?_); (case side1 => exact GoodW.below HG.out (by repeat (first | (with_reducible first | exact HB.out | apply below_alloc | apply pw_below_drewN | apply below_drew1) | exact HB.out))); rintro e w24 ⟨v203, v205, rfl, ho0, ho1, hb⟩; have n0_ := Aside0.mk (below_step (by repeat (first | (with_reducible first | exact HB.out | apply below_alloc | apply pw_below_drewN | apply below_drew1) | exact HB.out)) hb); clear HB; have HB := n0_; clear n0_ hb; obtain ⟨Av203, cv203, ev203⟩ := Kd.R_slice ho0; subst ev203; obtain ⟨Av205, cv205, ev205⟩ := Kd.R_slice ho1; subst ev205; clear ho0 ho1))
                repeat (go_quiet (fail); try go_wp2)
                go_ret
                exact ⟨by first | rfl | (simp [errW_none, errW_some] <;> rfl) | (simp only [← hji81]; first | rfl | (simp [errW_none, errW_some] <;> rfl)) | (simp [*, errW_none, errW_some] <;> rfl), by repeat (first | (with_reducible first | exact HB.out | apply below_alloc | apply pw_below_drewN | apply below_drew1) | exact HB.out)⟩
              ·rw [if_neg c80] at H
               have c80b0 : (t186 == 63) = false := beq_eq_false_iff_ne.mpr c80
               have c80b1 : (t186 != 63) = true := bne_iff_ne.mpr c80
               obtain rfl := Option.some.inj H
               go_wp2_with (first | (go_at_call 22; (with_reducible refine (readC.calls x8_1 t183 t184 t185 t186 _ ?side1 A12.out).mono ?_); (case side1 => exact GoodW.below HG.out (by repeat (first | (with_reducible first | exact HB.out | apply below_alloc | apply pw_below_drewN | apply below_drew1) | exact HB.out))); rintro e w22 ⟨v187, v189, rfl, ho0, ho1, hb⟩; have n0_ := Aside0.mk (below_step (by repeat (first | (with_reducible first | exact HB.out | apply below_alloc | apply pw_below_drewN | apply below_drew1) | exact HB.out)) hb); clear HB; have HB := n0_; clear n0_ hb; obtain ⟨Av187, cv187, ev187⟩ := Kd.R_slice ho0; subst ev187; obtain ⟨Av189, cv189, ev189⟩ := Kd.R_slice ho1; subst ev189; clear ho0 ho1) | (go_at_call 22; (with_reducible refine (readC.calls ((x8_1 ++ (⟨#[120]⟩ : ByteArray)) ++ x10_2) t191 t192 t193 t194 _ ?side1 A15.out).mono ?_); (case side1 => exact GoodW.below HG.out (by repeat (first | (with_reducible first | exact HB.out | apply below_alloc | apply pw_below_drewN | apply below_drew1) | exact HB.out))); rintro e w23 ⟨v195, v197, rfl, ho0, ho1, hb⟩; have n0_ := Aside0.mk (below_step (by repeat (first | (with_reducible first | exact HB.out | apply below_alloc | apply pw_below_drewN | apply below_drew1) | exact HB.out)) hb); clear HB; have HB := n0_; clear n0_ hb; obtain ⟨Av195, cv195, ev195⟩ := Kd.R_slice ho0; subst ev195; obtain ⟨Av197, cv197, ev197⟩ := Kd.R_slice ho1; subst ev197; clear ho0 ho1) | (go_at_call 22; (with_reducible refine (readC.calls (⟨#[120, 41]⟩ : ByteArray) t199 t200 t201 t202 _ ?side1 A16.out).mono ?_); (case side1 => exact GoodW.below HG.out (by repeat (first | (with_reducible first | exact HB.out | apply below_alloc | apply pw_below_drewN | apply below_drew1) | exact HB.out))); rintro e w24 ⟨v203, v205, rfl, ho0, ho1, hb⟩; have n0_ := Aside0.mk (below_step (by repeat (first | (with_reducible first | exact HB.out | apply below_alloc | apply pw_below_drewN | apply below_drew1) | exact HB.out)) hb); clear HB; have HB := n0_; clear n0_ hb; obtain ⟨Av203, cv203, ev203⟩ := Kd.R_slice ho0; subst ev203; obtain ⟨Av205, cv205, ev205⟩ := Kd.R_slice ho1; subst ev205; clear ho0 ho1))
               repeat (go_quiet (fail); try go_wp2)
               go_ret
               exact ⟨by first | rfl | (simp [errW_none, errW_some] <;> rfl) | (simp [*, errW_none, errW_some] <;> rfl), by repeat (first | (with_reducible first | exact HB.out | apply below_alloc | apply pw_below_drewN | apply below_drew1) | exact HB.out)⟩
             ·replace c79 := Bool.eq_false_iff.mpr c79
              subst c79
              have H1 : (some false) = some r := by rw [if_neg (show ¬ (false = true) by decide)] at H; exact H
              clear H
              have H := H1
              clear H1
              obtain rfl := Option.some.inj H
              go_wp2_with (first | (go_at_call 22; (with_reducible refine (readC.calls x8_1 t183 t184 t185 t186 _ ?side1 A12.out).mono ?_); (case side1 => exact GoodW.below HG.out (by repeat (first | (with_reducible first | exact HB.out | apply below_alloc | apply pw_below_drewN | apply below_drew1) | exact HB.out))); rintro e w22 ⟨v187, v189, rfl, ho0, ho1, hb⟩; have n0_ := Aside0.mk (below_step (by repeat (first | (with_reducible first | exact HB.out | apply below_alloc | apply pw_below_drewN | apply below_drew1) | exact HB.out)) hb); clear HB; have HB := n0_; clear n0_ hb; obtain ⟨Av187, cv187, ev187⟩ := Kd.R_slice ho0; subst ev187; obtain ⟨Av189, cv189, ev189⟩ := Kd.R_slice ho1; subst ev189; clear ho0 ho1) | (go_at_call 22; (with_reducible refine (readC.calls ((x8_1 ++ (⟨#[120]⟩ : ByteArray)) ++ x10_2) t191 t192 t193 t194 _ ?side1 A15.out).mono ?_); (case side1 => exact GoodW.below HG.out (by repeat (first | (with_reducible first | exact HB.out | apply below_alloc | apply pw_below_drewN | apply below_drew1) | exact HB.out))); rintro e w23 ⟨v195, v197, rfl, ho0, ho1, hb⟩; have n0_ := Aside0.mk (below_step (by repeat (first | (with_reducible first | exact HB.out | apply below_alloc | apply pw_below_drewN | apply below_drew1) | exact HB.out)) hb); clear HB; have HB := n0_; clear n0_ hb; obtain ⟨Av195, cv195, ev195⟩ := Kd.R_slice ho0; subst ev195; obtain ⟨Av197, cv197, ev197⟩ := Kd.R_slice ho1; subst ev197; clear ho0 ho1) | (go_at_call 22; (with_reducible refine (readC.calls (⟨#[120, 41]⟩ : ByteArray) t199 t200 t201 t202 _ ?side1 A16.out).mono ?_); (case side1 => exact GoodW.below HG.out (by repeat (first | (with_reducible first | exact HB.out | apply below_alloc | apply pw_below_drewN | apply below_drew1) | exact HB.out))); rintro e w24 ⟨v203, v205, rfl, ho0, ho1, hb⟩; have n0_ := Aside0.mk (below_step (by repeat (first | (with_reducible first | exact HB.out | apply below_alloc | apply pw_below_drewN | apply below_drew1) | exact HB.out)) hb); clear HB; have HB := n0_; clear n0_ hb; obtain ⟨Av203, cv203, ev203⟩ := Kd.R_slice ho0; subst ev203; obtain ⟨Av205, cv205, ev205⟩ := Kd.R_slice ho1; subst ev205; clear ho0 ho1))
              repeat (go_quiet (fail); try go_wp2)
              go_ret
              exact ⟨by first | rfl | (simp [errW_none, errW_some] <;> rfl) | (simp [*, errW_none, errW_some] <;> rfl), by repeat (first | (with_reducible first | exact HB.out | apply below_alloc | apply pw_below_drewN | apply below_drew1) | exact HB.out)⟩
            ·rw [if_neg c78] at H
             have c78b0 : ((Int.tmod (wrap64 (a1)) (wrap64 ((wrap64 (Int.tmod a0 61)) + 1))) == (wrap64 (Int.tmod a0 61))) = false := beq_eq_false_iff_ne.mpr c78
             have c78b1 : ((Int.tmod (wrap64 (a1)) (wrap64 ((wrap64 (Int.tmod a0 61)) + 1))) != (wrap64 (Int.tmod a0 61))) = true := bne_iff_ne.mpr c78
             by_cases c118 : t182 = true
             ·subst c118
              have H1 : (if t186 = 60 then (if t185 = (mx (wrap64 ((wrap64 (Int.tmod a0 61)) - 1)) 0) then (if t194 = 0 then (if (t192.length : Int) = 1 then (if (t191.length : Int) = (wrap64 ((wrap64 (1 + (wrap64 (Int.tmod a0 61)))) + (Int.tmod (wrap64 (a1)) (wrap64 ((wrap64 (Int.tmod a0 61)) + 1))))) then (if t201 = 1 then (some (t202 == 61)) else (some false)) else (some false)) else (some false)) else (some false)) else (some false)) else (some false)) = some r := by rw [if_pos rfl] at H; exact H
              clear H
              have H := H1
              clear H1
              by_cases c119 : t186 = 60
              ·rw [if_pos c119] at H
               have c119b0 : (t186 == 60) = true := beq_iff_eq.mpr c119
               have c119b1 : (t186 != 60) = false := bne_eq_false_iff_eq.mpr c119
               clear c119
               obtain ⟨ji120, hji120⟩ : ∃ j_ : Int, (mx (wrap64 ((wrap64 (Int.tmod a0 61)) - 1)) 0) = j_ := ⟨_, rfl⟩
               replace H : (if t185 = (ji120) then (if t194 = 0 then (if (t192.length : Int) = 1 then (if (t191.length : Int) = (wrap64 ((wrap64 (1 + (wrap64 (Int.tmod a0 61)))) + (Int.tmod (wrap64 (a1)) (wrap64 ((wrap64 (Int.tmod a0 61)) + 1))))) then (if t201 = 1 then (some (t202 == 61)) else (some false)) else (some false)) else (some false)) else (some false)) else (some false)) = some r := by first | (rw [hji120] at H; exact H) | (simp only [hji120] at H ⊢; exact H)
               (try rw [hji120] at A12)
               (try rw [hji120] at A15)
               (try rw [hji120] at A16)
               have hji120_ : (if (wrap64 ((wrap64 (Int.tmod a0 61)) - 1)) < 0 then 0 else (wrap64 ((wrap64 (Int.tmod a0 61)) - 1))) = ji120 := hji120
               by_cases c121 : t185 = (ji120)
               ·rw [if_pos c121] at H
                have c121b0 : (t185 == (ji120)) = true := beq_iff_eq.mpr c121
                have c121b1 : (t185 != (ji120)) = false := bne_eq_false_iff_eq.mpr c121
                clear c121
                by_cases c122 : t194 = 0
                ·rw [if_pos c122] at H
                 have c122b0 : (t194 == 0) = true := beq_iff_eq.mpr c122
                 have c122b1 : (t194 != 0) = false := bne_eq_false_iff_eq.mpr c122
                 clear c122
                 by_cases c123 : (t192.length : Int) = 1
                 ·rw [if_pos c123] at H
                  have c123b0 : ((t192.length : Int) == 1) = true := beq_iff_eq.mpr c123
                  have c123b1 : ((t192.length : Int) != 1) = false := bne_eq_false_iff_eq.mpr c123
                  clear c123
                  by_cases c124 : (t191.length : Int) = (wrap64 ((wrap64 (1 + (wrap64 (Int.tmod a0 61)))) + (Int.tmod (wrap64 (a1)) (wrap64 ((wrap64 (Int.tmod a0 61)) + 1)))))
                  ·rw [if_pos c124] at H
                   have c124b0 : ((t191.length : Int) == (wrap64 ((wrap64 (1 + (wrap64 (Int.tmod a0 61)))) + (Int.tmod (wrap64 (a1)) (wrap64 ((wrap64 (Int.tmod a0 61)) + 1)))))) = true := beq_iff_eq.mpr c124
                   have c124b1 : ((t191.length : Int) != (wrap64 ((wrap64 (1 + (wrap64 (Int.tmod a0 61)))) + (Int.tmod (wrap64 (a1)) (wrap64 ((wrap64 (Int.tmod a0 61)) + 1)))))) = false := bne_eq_false_iff_eq.mpr c124
                   clear c124
                   by_cases c125 : t201 = 1
                   ·rw [if_pos c125] at H
                    have c125b0 : (t201 == 1) = true := beq_iff_eq.mpr c125
                    have c125b1 : (t201 != 1) = false := bne_eq_false_iff_eq.mpr c125
                    clear c125
                    obtain rfl := Option.some.inj H
                    go_wp2_with (first | (go_at_call 22; (with_reducible refine (readC.calls x8_1 t183 t184 t185 t186 _ ?side1 A12.out).mono ?_); (case side1 => exact GoodW.below HG.out (by repeat (first | (with_reducible first | exact HB.out | apply below_alloc | apply pw_below_drewN | apply below_drew1) | exact HB.out))); rintro e w22 ⟨v187, v189, rfl, ho0, ho1, hb⟩; have n0_ := Aside0.mk (below_step (by repeat (first | (with_reducible first | exact HB.out | apply below_alloc | apply pw_below_drewN | apply below_drew1) | exact HB.out)) hb); clear HB; have HB := n0_; clear n0_ hb; obtain ⟨Av187, cv187, ev187⟩ := Kd.R_slice ho0; subst ev187; obtain ⟨Av189, cv189, ev189⟩ := Kd.R_slice ho1; subst ev189; clear ho0 ho1) | (go_at_call 22; (with_reducible refine (readC.calls ((x8_1 ++ (⟨#[120]⟩ : ByteArray)) ++ x10_2) t191 t192 t193 t194 _ ?side1 A15.out).mono ?_); (case side1 => exact GoodW.below HG.out (by repeat (first | (with_reducible first | exact HB.out | apply below_alloc | apply pw_below_drewN | apply below_drew1) | exact HB.out))); rintro e w23 ⟨v195, v197, rfl, ho0, ho1, hb⟩; have n0_ := Aside0.mk (below_step (by repeat (first | (with_reducible first | exact HB.out | apply below_alloc | apply pw_below_drewN | apply below_drew1) | exact HB.out)) hb); clear HB; have HB := n0_; clear n0_ hb; obtain ⟨Av195, cv195, ev195⟩ := Kd.R_slice ho0; subst ev195; obtain ⟨Av197, cv197, ev197⟩ := Kd.R_slice ho1; subst ev197; clear ho0 ho1) | (go_at_call 22; (with_reducible refine (readC.calls (⟨#[120, 41]⟩ : ByteArray) t199 t200 t201 t202 _ ?side1 A16.out).mono ?_); (case side1 => exact GoodW.below HG.out (by repeat (first | (with_reducible first | exact HB.out | apply below_alloc | apply pw_below_drewN | apply below_drew1) | exact HB.out))); rintro e w24 ⟨v203, v205, rfl, ho0, ho1, hb⟩; have n0_ := Aside0.mk (below_step (by repeat (first | (with_reducible first | exact HB.out | apply below_alloc | apply pw_below_drewN | apply below_drew1) | exact HB.out)) hb); clear HB; have HB := n0_; clear n0_ hb; obtain ⟨Av203, cv203, ev203⟩ := Kd.R_slice ho0; subst ev203; obtain ⟨Av205, cv205, ev205⟩ := Kd.R_slice ho1; subst ev205; clear ho0 ho1))
                    repeat (go_quiet (fail); try go_wp2)
                    go_ret
                    exact ⟨by first | rfl | (simp [errW_none, errW_some] <;> rfl) | (simp only [← hji120]; first | rfl | (simp [errW_none, errW_some] <;> rfl)) | (simp [*, errW_none, errW_some] <;> rfl), by repeat (first | (with_reducible first | exact HB.out | apply below_alloc | apply pw_below_drewN | apply below_drew1) | exact HB.out)⟩
                   ·rw [if_neg c125] at H
                    have c125b0 : (t201 == 1) = false := beq_eq_false_iff_ne.mpr c125
                    have c125b1 : (t201 != 1) = true := bne_iff_ne.mpr c125
                    obtain rfl := Option.some.inj H
                    go_wp2_with (first | (go_at_call 22; (with_reducible refine (readC.calls x8_1 t183 t184 t185 t186 _ ?side1 A12.out).mono ?_); (case side1 => exact GoodW.below HG.out (by repeat (first | (with_reducible first | exact HB.out | apply below_alloc | apply pw_below_drewN | apply below_drew1) | exact HB.out))); rintro e w22 ⟨v187, v189, rfl, ho0, ho1, hb⟩; have n0_ := Aside0.mk (below_step (by repeat (first | (with_reducible first | exact HB.out | apply below_alloc | apply pw_below_drewN | apply below_drew1) | exact HB.out)) hb); clear HB; have HB := n0_; clear n0_ hb; obtain ⟨Av187, cv187, ev187⟩ := Kd.R_slice ho0; subst ev187; obtain ⟨Av189, cv189, ev189⟩ := Kd.R_slice ho1; subst ev189; clear ho0 ho1) | (go_at_call 22; (with_reducible refine (readC.calls ((x8_1 ++ (⟨#[120]⟩ : ByteArray)) ++ x10_2) t191 t192 t193 t194 _ ?side1 A15.out).mono ?_); (case side1 => exact GoodW.below HG.out (by repeat (first | (with_reducible first | exact HB.out | apply below_alloc | apply pw_below_drewN | apply below_drew1) | exact HB.out))); rintro e w23 ⟨v195, v197, rfl, ho0, ho1, hb⟩; have n0_ := Aside0.mk (below_step (by repeat (first | (with_reducible first | exact HB.out | apply below_alloc | apply pw_below_drewN | apply below_drew1) | exact HB.out)) hb); clear HB; have HB := n0_; clear n0_ hb; obtain ⟨Av195, cv195, ev195⟩ := Kd.R_slice ho0; subst ev195; obtain ⟨Av197, cv197, ev197⟩ := Kd.R_slice ho1; subst ev197; clear ho0 ho1) | (go_at_call 22; (with_reducible refine (readC.calls (⟨#[120, 41]⟩ : ByteArray) t199 t200 t201 t202 _ ?side1 A16.out).mono ?_); (case side1 => exact GoodW.below HG.out (by repeat (first | (with_reducible first | exact HB.out | apply below_alloc | apply pw_below_drewN | apply below_drew1) | exact HB.out))); rintro e w24 ⟨v203, v205, rfl, ho0, ho1, hb⟩; have n0_ := Aside0.mk (below_step (by repeat (first | (with_reducible first | exact HB.out | apply below_alloc | apply pw_below_drewN | apply below_drew1) | exact HB.out)) hb); clear HB; have HB := n0_; clear n0_ hb; obtain ⟨Av203, cv203, ev203⟩ := Kd.R_slice ho0; subst ev203; obtain ⟨Av205, cv205, ev205⟩ := Kd.R_slice ho1; subst ev205; clear ho0 ho1))
                    repeat (go_quiet (fail); try go_wp2)
                    go_ret
                    exact ⟨by first | rfl | (simp [errW_none, errW_some] <;> rfl) | (simp only [← hji120]; first | rfl | (simp [errW_none, errW_some] <;> rfl)) | (simp [*, errW_none, errW_some] <;> rfl), by repeat (first | (with_reducible first | exact HB.out | apply below_alloc | apply pw_below_drewN | apply below_drew1) | exact HB.out)⟩
                  ·rw [if_neg c124] at H
                   have c124b0 : ((t191.length : Int) == (wrap64 ((wrap64 (1 + (wrap64 (Int.tmod a0 61)))) + (Int.tmod (wrap64 (a1)) (wrap64 ((wrap64 (Int.tmod a0 61)) + 1)))))) = false := beq_eq_false_iff_ne.mpr c124
                   have c124b1 : ((t191.length : Int) != (wrap64 ((wrap64 (1 + (wrap64 (Int.tmod a0 61)))) + (Int.tmod (wrap64 (a1)) (wrap64 ((wrap64 (Int.tmod a0 61)) + 1)))))) = true := bne_iff_ne.mpr c124
                   obtain rfl := Option.some.inj H
                   go_wp2_with (first | (go_at_call 22; (with_reducible refine (readC.calls x8_1 t183 t184 t185 t186 _ ?side1 A12.out).mono ?_); (case side1 => exact GoodW.below HG.out (by repeat (first | (with_reducible first | exact HB.out | apply below_alloc | apply pw_below_drewN | apply below_drew1) | exact HB.out))); rintro e w22 ⟨v187, v189, rfl, ho0, ho1, hb⟩; have n0_ := Aside0.mk (below_step (by repeat (first | (with_reducible first | exact HB.out | apply below_alloc | apply pw_below_drewN | apply below_drew1) | exact HB.out)) hb); clear HB; have HB := n0_; clear n0_ hb; obtain ⟨Av187, cv187, ev187⟩ := Kd.R_slice ho0; subst ev187; obtain ⟨Av189, cv189, ev189⟩ := Kd.R_slice ho1; subst ev189; clear ho0 ho1) | (go_at_call 22; (with_reducible refine (readC.calls ((x8_1 ++ (⟨#[120]⟩ : ByteArray)) ++ x10_2) t191 t192 t193 t194 _ ?side1 A15.out).mono ?_); (case side1 => exact GoodW.below HG.out (by repeat (first | (with_reducible first | exact HB.out | apply below_alloc | apply pw_below_drewN | apply below_drew1) | exact HB.out))); rintro e w23 ⟨v195, v197, rfl, ho0, ho1, hb⟩; have n0_ := Aside0.mk (below_step (by repeat (first | (with_reducible first | exact HB.out | apply below_alloc | apply pw_below_drewN | apply below_drew1) | exact HB.out)) hb); clear HB; have HB := n0_; clear n0_ hb; obtain ⟨Av195, cv195, ev195⟩ := Kd.R_slice ho0; subst ev195; obtain ⟨Av197, cv197, ev197⟩ := Kd.R_slice ho1; subst ev197; clear ho0 ho1) | (go_at_call 22; (with_reducible refine (readC.calls (⟨#[120, 41]⟩ : ByteArray) t199 t200 t201 t202 _ ?side1 A16.out).mono ?_); (case side1 => exact GoodW.below HG.out (by repeat (first | (with_reducible first | exact HB.out | apply below_alloc | apply pw_below_drewN | apply below_drew1) | exact HB.out))); rintro e w24 ⟨v203, v205, rfl, ho0, ho1, hb⟩; have n0_ := Aside0.mk (below_step (by repeat (first | (with_reducible first | exact HB.out | apply below_alloc | apply pw_below_drewN | apply below_drew1) | exact HB.out)) hb); clear HB; have HB := n0_; clear n0_ hb; obtain ⟨Av203, cv203, ev203⟩ := Kd.R_slice ho0; subst ev203; obtain ⟨Av205, cv205, ev205⟩ := Kd.R_slice ho1; subst ev205; clear ho0 ho1))
                   repeat (go_quiet (fail); try go_wp2)
                   go_ret
                   exact ⟨by first | rfl | (simp [errW_none, errW_some] <;> rfl) | (simp only [← hji120]; first | rfl | (simp [errW_none, errW_some] <;> rfl)) | (simp [*, errW_none, errW_some] <;> rfl), by repeat (first | (with_reducible first | exact HB.out | apply below_alloc | apply pw_below_drewN | apply below_drew1) | exact HB.out)⟩
                 ·rw [if_neg c123] at H
                  have c123b0 : ((t192.length : Int) == 1) = false := beq_eq_false_iff_ne.mpr c123
                  have c123b1 : ((t192.length : Int) != 1) = true := bne_iff_ne.mpr c123
                  obtain rfl := Option.some.inj H
                  go_wp2_with (first | (go_at_call 22; (with_reducible refine (readC.calls x8_1 t183 t184 t185 t186 _ ?side1 A12.out).mono ?_); (case side1 => exact GoodW.below HG.out (by repeat (first | (with_reducible first | exact HB.out | apply below_alloc | apply pw_below_drewN | apply below_drew1) | exact HB.out))); rintro e w22 ⟨v187, v189, rfl, ho0, ho1, hb⟩; have n0_ := Aside0.mk (below_step (by repeat (first | (with_reducible first | exact HB.out | apply below_alloc | apply pw_below_drewN | apply below_drew1) | exact HB.out)) hb); clear HB; have HB := n0_; clear n0_ hb; obtain ⟨Av187, cv187, ev187⟩ := Kd.R_slice ho0; subst ev187; obtain ⟨Av189, cv189, ev189⟩ := Kd.R_slice ho1; subst ev189; clear ho0 ho1) | (go_at_call 22; (with_reducible refine (readC.calls ((x8_1 ++ (⟨#[120]⟩ : ByteArray)) ++ x10_2) t191 t192 t193 t194 _ ?side1 A15.out).mono ?_); (case side1 => exact GoodW.below HG.out (by repeat (first | (with_reducible first | exact HB.out | apply below_alloc | apply pw_below_drewN | apply below_drew1) | exact HB.out))); rintro e w23 ⟨v195, v197, rfl, ho0, ho1, hb⟩; have n0_ := Aside0.mk (below_step (by repeat (first | (with_reducible first | exact HB.out | apply below_alloc | apply pw_below_drewN | apply below_drew1) | exact HB.out)) hb); clear HB; have HB := n0_; clear n0_ hb; obtain ⟨Av195, cv195, ev195⟩ := Kd.R_slice ho0; subst ev195; obtain ⟨Av197, cv197, ev197⟩ := Kd.R_slice ho1; subst ev197; clear ho0 ho1) | (go_at_call 22; (with_reducible refine (readC.calls (⟨#[120, 41]⟩ : ByteArray) t199 t200 t201 t202 _ ?side1 A16.out).mono ?_); (case side1 => exact GoodW.below HG.out (by repeat (first | (with_reducible first | exact HB.out | apply below_alloc | apply pw_below_drewN | apply below_drew1) | exact HB.out))); rintro e w24 ⟨v203, v205, rfl, ho0, ho1, hb⟩; have n0_ := Aside0.mk (below_step (by repeat (first | (with_reducible first | exact HB.out | apply below_alloc | apply pw_below_drewN | apply below_drew1) | exact HB.out)) hb); clear HB; have HB := n0_; clear n0_ hb; obtain ⟨Av203, cv203, ev203⟩ := Kd.R_slice ho0; subst ev203; obtain ⟨Av205, cv205, ev205⟩ := Kd.R_slice ho1; subst ev205; clear ho0 ho1))
                  repeat (go_quiet (fail); try go_wp2)
                  go_ret
                  exact ⟨by first | rfl | (simp [errW_none, errW_some] <;> rfl) | (simp only [← hji120]; first | rfl | (simp [errW_none, errW_some] <;> rfl)) | (simp [*, errW_none, errW_some] <;> rfl), by repeat (first | (with_reducible first | exact HB.out | apply below_alloc | apply pw_below_drewN | apply below_drew1) | exact HB.out)⟩
                ·rw [if_neg c122] at H
                 have c122b0 : (t194 == 0) = false := beq_eq_false_iff_ne.mpr c122
                 have c122b1 : (t194 != 0) = true := bne_iff_ne.mpr c122
                 obtain rfl := Option.some.inj H
                 go_wp2_with (first | (go_at_call 22; (with_reducible refine (readC.calls x8_1 t183 t184 t185 t186 _ ?side1 A12.out).mono ?_); (case side1 => exact GoodW.below HG.out (by repeat (first | (with_reducible first | exact HB.out | apply below_alloc | apply pw_below_drewN | apply below_drew1) | exact HB.out))); rintro e w22 ⟨v187, v189, rfl, ho0, ho1, hb⟩; have n0_ := Aside0.mk (below_step (by repeat (first | (with_reducible first | exact HB.out | apply below_alloc | apply pw_below_drewN | apply below_drew1) | exact HB.out)) hb); clear HB; have HB := n0_; clear n0_ hb; obtain ⟨Av187, cv187, ev187⟩ := Kd.R_slice ho0; subst ev187; obtain ⟨Av189, cv189, ev189⟩ := Kd.R_slice ho1; subst ev189; clear ho0 ho1) | (go_at_call 22; (with_reducible refine (readC.calls ((x8_1 ++ (⟨#[120]⟩ : ByteArray)) ++ x10_2) t191 t192 t193 t194 _ ?side1 A15.out).mono ?_); (case side1 => exact GoodW.below HG.out (by repeat (first | (with_reducible first | exact HB.out | apply below_alloc | apply pw_below_drewN | apply below_drew1) | exact HB.out))); rintro e w23 ⟨v195, v197, rfl, ho0, ho1, hb⟩; have n0_ := Aside0.mk (below_step (by repeat (first | (with_reducible first | exact HB.out | apply below_alloc | apply pw_below_drewN | apply below_drew1) | exact HB.out)) hb); clear HB; have HB := n0_; clear n0_ hb; obtain ⟨Av195, cv195, ev195⟩ := Kd.R_slice ho0; subst ev195; obtain ⟨Av197, cv197, ev197⟩ := Kd.R_slice ho1; subst ev197; clear ho0 ho1) | (go_at_call 22; (with_reducible refine (readC.calls (⟨#[120, 41]⟩ : ByteArray) t199 t200 t201 t202 _ ?side1 A16.out).mono ?_); (case side1 => exact GoodW.below HG.out (by repeat (first | (with_reducible first | exact HB.out | apply below_alloc | apply pw_below_drewN | apply below_drew1) | exact HB.out))); rintro e w24 ⟨v203, v205, rfl, ho0, ho1, hb⟩; have n0_ := Aside0.mk (below_step (by repeat (first | (with_reducible first | exact HB.out | apply below_alloc | apply pw_below_drewN | apply below_drew1) | exact HB.out)) hb); clear HB; have HB := n0_; clear n0_ hb; obtain ⟨Av203, cv203, ev203⟩ := Kd.R_slice ho0; subst ev203; obtain ⟨Av205, cv205, ev205⟩ := Kd.R_slice ho1; subst ev205; clear ho0 ho1))
                 repeat (go_quiet (fail); try go_wp2)
                 go_ret
                 exact ⟨by first | rfl | (simp [errW_none, errW_some] <;> rfl) | (simp only [← hji120]; first | rfl | (simp [errW_none, errW_some] <;> rfl)) | (simp [*, errW_none, errW_some] <;> rfl), by repeat (first | (with_reducible first | exact HB.out | apply below_alloc | apply pw_below_drewN | apply below_drew1) | exact HB.out)⟩
               ·rw [if_neg c121] at H
                have c121b0 : (t185 == (ji120)) = false := beq_eq_false_iff_ne.mpr c121
                have c121b1 : (t185 != (ji120)) = true := bne_iff_ne.mpr c121
                obtain rfl := Option.some.inj H
                go_wp2_with (first | (go_at_call 22; (with_reducible refine (readC.calls x8_1 t183 t184 t185 t186 _ ?side1 A12.out).mono ?_); (case side1 => exact GoodW.below HG.out (by repeat (first | (with_reducible first | exact HB.out | apply below_alloc | apply pw_below_drewN | apply below_drew1) | exact HB.out))); rintro e w22 ⟨v187, v189, rfl, ho0, ho1, hb⟩; have n0_ := Aside0.mk (below_step (by repeat (first | (with_reducible first | exact HB.out | apply below_alloc | apply pw_below_drewN | apply below_drew1) | exact HB.out)) hb); clear HB; have HB := n0_; clear n0_ hb; obtain ⟨Av187, cv187, ev187⟩ := Kd.R_slice ho0; subst ev187; obtain ⟨Av189, cv189, ev189⟩ := Kd.R_slice ho1; subst ev189; clear ho0 ho1) | (go_at_call 22; (with_reducible refine (readC.calls ((x8_1 ++ (⟨#[120]⟩ : ByteArray)) ++ x10_2) t191 t192 t193 t194 _ ?side1 A15.out).mono ?_); (case side1 => exact GoodW.below HG.out (by repeat (first | (with_reducible first | exact HB.out | apply below_alloc | apply pw_below_drewN | apply below_drew1) | exact HB.out))); rintro e w23 ⟨v195, v197, rfl, ho0, ho1, hb⟩; have n0_ := Aside0.mk (below_step (by repeat (first | (with_reducible first | exact HB.out | apply below_alloc | apply pw_below_drewN | apply below_drew1) | exact HB.out)) hb); clear HB; have HB := n0_; clear n0_ hb; obtain ⟨Av195, cv195, ev195⟩ := Kd.R_slice ho0; subst ev195; obtain ⟨Av197, cv197, ev197⟩ := Kd.R_slice ho1; subst ev197; clear ho0 ho1) | (go_at_call 22; (with_reducible refine (readC.calls (⟨#[120, 41]⟩ : ByteArray) t199 t200 t201 t202 _ ?side1 A16.out).mono ?_); (case side1 => exact GoodW.below HG.out (by repeat (first | (with_reducible first | exact HB.out | apply below_alloc | apply pw_below_drewN | apply below_drew1) | exact HB.out))); rintro e w24 ⟨v203, v205, rfl, ho0, ho1, hb⟩; have n0_ := Aside0.mk (below_step (by repeat (first | (with_reducible first | exact HB.out | apply below_alloc | apply pw_below_drewN | apply below_drew1) | exact HB.out)) hb); clear HB; have HB := n0_; clear n0_ hb; obtain ⟨Av203, cv203, ev203⟩ := Kd.R_slice ho0; subst ev203; obtain ⟨Av205, cv205, ev205⟩ := Kd.R_slice ho1; subst ev205; clear ho0 ho1))
                repeat (go_quiet (fail); try go_wp2)
                go_ret
                exact ⟨by first | rfl | (simp [errW_none, errW_some] <;> rfl) | (simp only [← hji120]; first | rfl | (simp [errW_none, errW_some] <;> rfl)) | (simp [*, errW_none, errW_some] <;> rfl), by repeat (first | (with_reducible first | exact HB.out | apply below_alloc | apply pw_below_drewN | apply below_drew1) | exact HB.out)⟩
              ·rw [if_neg c119] at H
               have c119b0 : (t186 == 60) = false := beq_eq_false_iff_ne.mpr c119
               have c119b1 : (t186 != 60) = true := bne_iff_ne.mpr c119
               obtain rfl := Option.some.inj H
               go_wp2_with (first | (go_at_call 22; (with_reducible refine (readC.calls x8_1 t183 t184 t185 t186 _ ?side1 A12.out).mono ?_); (case side1 => exact GoodW.below HG.out (by repeat (first | (with_reducible first | exact HB.out | apply below_alloc | apply pw_below_drewN | apply below_drew1) | exact HB.out))); rintro e w22 ⟨v187, v189, rfl, ho0, ho1, hb⟩; have n0_ := Aside0.mk (below_step (by repeat (first | (with_reducible first | exact HB.out | apply below_alloc | apply pw_below_drewN | apply below_drew1) | exact HB.out)) hb); clear HB; have HB := n0_; clear n0_ hb; obtain ⟨Av187, cv187, ev187⟩ := Kd.R_slice ho0; subst ev187; obtain ⟨Av189, cv189, ev189⟩ := Kd.R_slice ho1; subst ev189; clear ho0 ho1) | (go_at_call 22; (with_reducible refine (readC.calls ((x8_1 ++ (⟨#[120]⟩ : ByteArray)) ++ x10_2) t191 t192 t193 t194 _ ?side1 A15.out).mono ?_); (case side1 => exact GoodW.below HG.out (by repeat (first | (with_reducible first | exact HB.out | apply below_alloc | apply pw_below_drewN | apply below_drew1) | exact HB.out))); rintro e w23 ⟨v195, v197, rfl, ho0, ho1, hb⟩; have n0_ := Aside0.mk (below_step (by repeat (first | (with_reducible first | exact HB.out | apply below_alloc | apply pw_below_drewN | apply below_drew1) | exact HB.out)) hb); clear HB; have HB := n0_; clear n0_ hb; obtain ⟨Av195, cv195, ev195⟩ := Kd.R_slice ho0; subst ev195; obtain ⟨Av197, cv197, ev197⟩ := Kd.R_slice ho1; subst ev197; clear ho0 ho1) | (go_at_call 22; (with_reducible refine (readC.calls (⟨#[120, 41]⟩ : ByteArray) t199 t200 t201 t202 _ ?side1 A16.out).mono ?_); (case side1 => exact GoodW.below HG.out (by repeat (first | (with_reducible first | exact HB.out | apply below_alloc | apply pw_below_drewN | apply below_drew1) | exact HB.out))); rintro e w24 ⟨v203, v205, rfl, ho0, ho1, hb⟩; have n0_ := Aside0.mk (below_step (by repeat (first | (with_reducible first | exact HB.out | apply below_alloc | apply pw_below_drewN | apply below_drew1) | exact HB.out)) hb); clear HB; have HB := n0_; clear n0_ hb; obtain ⟨Av203, cv203, ev203⟩ := Kd.R_slice ho0; subst ev203; obtain ⟨Av205, cv205, ev205⟩ := Kd.R_slice ho1; subst ev205; clear ho0 ho1))
               repeat (go_quiet (fail); try go_wp2)
               go_ret
               exact ⟨by first | rfl | (simp [errW_none, errW_some] <;> rfl) | (simp [*, errW_none, errW_some] <;> rfl), by repeat (first | (with_reducible first | exact HB.out | apply below_alloc | apply pw_below_drewN | apply below_drew1) | exact HB.out)⟩
             ·replace c118 := Bool.eq_false_iff.mpr c118
              subst c118
              have H1 : (some false) = some r := by rw [if_neg (show ¬ (false = true) by decide)] at H; exact H
              clear H
              have H := H1
              clear H1
              obtain rfl := Option.some.inj H
              go_wp2_with (first | (go_at_call 22; (with_reducible refine (readC.calls x8_1 t183 t184 t185 t186 _ ?side1 A12.out).mono ?_); (case side1 => exact GoodW.below HG.out (by repeat (first | (with_reducible first | exact HB.out | apply below_alloc | apply pw_below_drewN | apply below_drew1) | exact HB.out))); rintro e w22 ⟨v187, v189, rfl, ho0, ho1, hb⟩; have n0_ := Aside0.mk (below_step (by repeat (first | (with_reducible first | exact HB.out | apply below_alloc | apply pw_below_drewN | apply below_drew1) | exact HB.out)) hb); clear HB; have HB := n0_; clear n0_ hb; obtain ⟨Av187, cv187, ev187⟩ := Kd.R_slice ho0; subst ev187; obtain ⟨Av189, cv189, ev189⟩ := Kd.R_slice ho1; subst ev189; clear ho0 ho1) | (go_at_call 22; (with_reducible refine (readC.calls ((x8_1 ++ (⟨#[120]⟩ : ByteArray)) ++ x10_2) t191 t192 t193 t194 _ ?side1 A15.out).mono ?_); (case side1 => exact GoodW.below HG.out (by repeat (first | (with_reducible first | exact HB.out | apply below_alloc | apply pw_below_drewN | apply below_drew1) | exact HB.out))); rintro e w23 ⟨v195, v197, rfl, ho0, ho1, hb⟩; have n0_ := Aside0.mk (below_step (by repeat (first | (with_reducible first | exact HB.out | apply below_alloc | apply pw_below_drewN | apply below_drew1) | exact HB.out)) hb); clear HB; have HB := n0_; clear n0_ hb; obtain ⟨Av195, cv195, ev195⟩ := Kd.R_slice ho0; subst ev195; obtain ⟨Av197, cv197, ev197⟩ := Kd.R_slice ho1; subst ev197; clear ho0 ho1) | (go_at_call 22; (with_reducible refine (readC.calls (⟨#[120, 41]⟩ : ByteArray) t199 t200 t201 t202 _ ?side1 A16.out).mono ?_); (case side1 => exact GoodW.below HG.out (by repeat (first | (with_reducible first | exact HB.out | apply below_alloc | apply pw_below_drewN | apply below_drew1) | exact HB.out))); rintro e w24 ⟨v203, v205, rfl, ho0, ho1, hb⟩; have n0_ := Aside0.mk (below_step (by repeat (first | (with_reducible first | exact HB.out | apply below_alloc | apply pw_below_drewN | apply below_drew1) | exact HB.out)) hb); clear HB; have HB := n0_; clear n0_ hb; obtain ⟨Av203, cv203, ev203⟩ := Kd.R_slice ho0; subst ev203; obtain ⟨Av205, cv205, ev205⟩ := Kd.R_slice ho1; subst ev205; clear ho0 ho1))
              repeat (go_quiet (fail); try go_wp2)
              go_ret
              exact ⟨by first | rfl | (simp [errW_none, errW_some] <;> rfl) | (simp [*, errW_none, errW_some] <;> rfl), by repeat (first | (with_reducible first | exact HB.out | apply below_alloc | apply pw_below_drewN | apply below_drew1) | exact HB.out)⟩
         ·rw [if_neg c14] at H
          exact absurd H (by simp)
        ·rw [if_neg c13] at H
         exact absurd H (by simp)

/-- THE ONE PURE STATEMENT of RD6: yours. -/
def RD6.Pure : Prop := ∀ (a0 : Int) (a1 : Int), (Lit.int .u8 a0).wf = true → (Lit.int .u8 a1).wf = true → ∃ k, RD6.f k a0 a1 = some true
theorem RD6.walk (P : RD6.Pure) (a0 : Int) (a1 : Int) (w : World) (hG : GoodW w) (w0 : (Lit.int .u8 a0).wf = true) (w1 : (Lit.int .u8 a1).wf = true) :
  Calls Tryd.prog 11 #[.int .u8 a0, .int .u8 a1] w fun e w' => e = .returned (.bool true) ∧ Below w.heap.size w w' := by
 obtain ⟨k, h⟩ := P a0 a1 w0 w1
 refine (RD6.calls k a0 a1 true w hG h).mono ?_
 rintro e w' ⟨rfl, hd⟩
 exact ⟨rfl, hd⟩

end Go.Proofs.YthempkdgmobocaaDoor.T
end
