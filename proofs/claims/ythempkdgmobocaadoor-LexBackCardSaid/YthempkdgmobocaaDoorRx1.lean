-- Written by myprint.py, a program of the session's own, out of the translation. Lean checks it.
import Derived.Test.YthempkdgmobocaaDoorRx0
namespace Go.Proofs.YthempkdgmobocaaDoor.R
open Go.RowKit Go.Proofs.YthempkdgmobocaaDoorX Go.Proofs.YthempkdgmobocaaDoorE Go.Proofs.YthempkdgmobocaaDoor.L Go.Proofs.YthempkdgmobocaaDoorW.PrintWords Go.Proofs.YthempkdgmobocaaDoorW.PrintLast Go.Proofs.YthempkdgmobocaaDoorW.PrintMore
attribute [local go_sem] max2_int min2_int max_two min_two max_three min_three max_four min_four   -- for this text's walks alone
attribute [local go_sem] cell_again map_some'
set_option linter.unusedVariables false
set_option linter.unusedSimpArgs false

/-! ### eddywheellaw05_shown: function 16 -/
def eddywheellaw05_shown.f  : Option (Bool) := (lexC.f (⟨#[40, 43, 32, 45, 50, 32, 120, 41]⟩ : ByteArray)).bind fun bt101 => (if bt101.2.1 = 0 then (if bt101.2.2 = 0 then ((sameC.f bt101.1 (([(⟨1, 0, 0, (⟨#[]⟩ : ByteArray)⟩ : S30), (⟨6, 1, 0, (⟨#[43]⟩ : ByteArray)⟩ : S30), (⟨4, 3, (-2), (⟨#[]⟩ : ByteArray)⟩ : S30), (⟨6, 6, 0, (⟨#[120]⟩ : ByteArray)⟩ : S30), (⟨2, 7, 0, (⟨#[]⟩ : ByteArray)⟩ : S30)] : List (S30)))).bind fun t109 => (some t109)) else (some false)) else (some false))
set_option maxHeartbeats 8000000 in
set_option maxRecDepth 100000 in
theorem eddywheellaw05_shown.calls  (r : Bool) (w : World) (hG : GoodW w) (h : eddywheellaw05_shown.f  = some r) :
    Calls Tryd.prog 16 #[] w fun e w' => e = .returned (.bool r) ∧ Below w.heap.size w w' := by
  have HG := Aside0.mk hG
  clear hG
  have hu30 := Tryd.underlying30
  have HB := Aside0.mk (Below.refl w.heap.size w)
  have H : ((lexC.f (⟨#[40, 43, 32, 45, 50, 32, 120, 41]⟩ : ByteArray)).bind fun bt101 => (if bt101.2.1 = 0 then (if bt101.2.2 = 0 then ((sameC.f bt101.1 (([(⟨1, 0, 0, (⟨#[]⟩ : ByteArray)⟩ : S30), (⟨6, 1, 0, (⟨#[43]⟩ : ByteArray)⟩ : S30), (⟨4, 3, (-2), (⟨#[]⟩ : ByteArray)⟩ : S30), (⟨6, 6, 0, (⟨#[120]⟩ : ByteArray)⟩ : S30), (⟨2, 7, 0, (⟨#[]⟩ : ByteArray)⟩ : S30)] : List (S30)))).bind fun t109 => (some t109)) else (some false)) else (some false))) = some r := h
  clear h
  replace H := Option.bind_eq_some_iff.mp H
  obtain ⟨⟨t101, t102, t103⟩, A10, H⟩ := H
  replace H : (if t102 = 0 then (if t103 = 0 then ((sameC.f t101 (([(⟨1, 0, 0, (⟨#[]⟩ : ByteArray)⟩ : S30), (⟨6, 1, 0, (⟨#[43]⟩ : ByteArray)⟩ : S30), (⟨4, 3, (-2), (⟨#[]⟩ : ByteArray)⟩ : S30), (⟨6, 6, 0, (⟨#[120]⟩ : ByteArray)⟩ : S30), (⟨2, 7, 0, (⟨#[]⟩ : ByteArray)⟩ : S30)] : List (S30)))).bind fun t109 => (some t109)) else (some false)) else (some false)) = some r := H
  have A1 := Aside0.mk A10
  clear A10
  by_cases c2 : t102 = 0
  · rw [if_pos c2] at H
    have c2b0 : (t102 == 0) = true := beq_iff_eq.mpr c2
    have c2b1 : (t102 != 0) = false := bne_eq_false_iff_eq.mpr c2
    clear c2
    by_cases c3 : t103 = 0
    · rw [if_pos c3] at H
      have c3b0 : (t103 == 0) = true := beq_iff_eq.mpr c3
      have c3b1 : (t103 != 0) = false := bne_eq_false_iff_eq.mpr c3
      clear c3
      obtain ⟨y106, hy106⟩ : ∃ y_ : List (S30), y_ = (([(⟨1, 0, 0, (⟨#[]⟩ : ByteArray)⟩ : S30), (⟨6, 1, 0, (⟨#[43]⟩ : ByteArray)⟩ : S30), (⟨4, 3, (-2), (⟨#[]⟩ : ByteArray)⟩ : S30), (⟨6, 6, 0, (⟨#[120]⟩ : ByteArray)⟩ : S30), (⟨2, 7, 0, (⟨#[]⟩ : ByteArray)⟩ : S30)] : List (S30))) := ⟨_, rfl⟩
      replace H : ((sameC.f t101 y106).bind fun t109 => (some t109)) = some r := by first | (rw [hy106]; with_reducible exact H) | (have H2_ := (Option.bind_some _ _).symm.trans H; rw [hy106]; with_reducible exact H2_) | (have H2_ := (Option.bind_some _ _).symm.trans H; with_reducible exact H2_) | with_reducible exact H | (rw [hy106]; exact H) | exact H
      have Ny106 := Aside0.mk hy106
      clear hy106
      replace H := Option.bind_eq_some_iff.mp H
      obtain ⟨t109, A40, H⟩ := H
      replace H : (some t109) = some r := H
      have A4 := Aside0.mk A40
      clear A40
      obtain rfl := Option.some.inj H
      go_enter Tryd.func16, Tryd.ntmps16
      go_wp2_with (first | ((with_reducible refine gate_callee (f := 17) rfl ?_); refine goesL_ (some 5) rfl rfl Tryd.func17 (by kernel_rfl) rfl #[.string (⟨#[40, 43, 32, 45, 50, 32, 120, 41]⟩ : ByteArray)] rfl (by (try simp only [List.map_toArray, List.map_cons, List.map_nil]); first | done | rfl | (simp only [List.length_drop, List.length_take]; rfl)) ?_; (with_reducible refine (lexC.calls (⟨#[40, 43, 32, 45, 50, 32, 120, 41]⟩ : ByteArray) t101 t102 t103 _ ?side1 A1.out).mono ?_); (case side1 => exact GoodW.below HG.out (by repeat (first | (with_reducible first | exact HB.out | apply below_alloc | apply pw_below_drewN | apply below_drew1) | exact HB.out))); rintro e w5 ⟨v104, rfl, ho0, hb⟩; refine ⟨_, rfl, ?_⟩; have n0_ := Aside0.mk (Kd.R_lower ho0 (below_size (by repeat (first | (with_reducible first | exact HB.out | apply below_alloc | apply pw_below_drewN | apply below_drew1) | exact HB.out)))); have n1_ := Aside0.mk (below_step (by repeat (first | (with_reducible first | exact HB.out | apply below_alloc | apply pw_below_drewN | apply below_drew1) | exact HB.out)) hb); clear HB; have HO105 := n0_; have HB := n1_; clear n0_ n1_; (try clear hb); (try clear hb2); (try clear hk); (try clear hi); (try clear ho0)) | ((with_reducible refine gate_dst (N := 22) rfl ?_); (try (refine gate_guard (by rfl) ?_; dsimp only)); refine Kd.R_lit k30 _ 30 ?hg (N := 22) ?hd (xs := ([(⟨1, 0, 0, (⟨#[]⟩ : ByteArray)⟩ : S30), (⟨6, 1, 0, (⟨#[43]⟩ : ByteArray)⟩ : S30), (⟨4, 3, (-2), (⟨#[]⟩ : ByteArray)⟩ : S30), (⟨6, 6, 0, (⟨#[120]⟩ : ByteArray)⟩ : S30), (⟨2, 7, 0, (⟨#[]⟩ : ByteArray)⟩ : S30)] : List (S30))) (inner := [.int .u8 1, .int .i64 0, .int .i64 0, .string (⟨#[]⟩ : ByteArray), .int .u8 6, .int .i64 1, .int .i64 0, .string (⟨#[43]⟩ : ByteArray), .int .u8 4, .int .i64 3, .int .i64 (-2), .string (⟨#[]⟩ : ByteArray), .int .u8 6, .int .i64 6, .int .i64 0, .string (⟨#[120]⟩ : ByteArray), .int .u8 2, .int .i64 7, .int .i64 0, .string (⟨#[]⟩ : ByteArray)]) (ok := fun _ => True) (okp := fun _ => True) ?hr ?hp (fun _ hk => hk) trivial (Below.refl _ _) (Nat.le_refl _) (by simp) ?_; (case hd => rfl); (case hg => rfl); (case hr => first | (go_simp; done) | (go_simp; rfl)); (case hp => exact (Reps.c4 (show Kd.M k30 _ _ _ (⟨1, 0, 0, (⟨#[]⟩ : ByteArray)⟩ : S30) [.int .u8 1, .int .i64 0, .int .i64 0, .string (⟨#[]⟩ : ByteArray)] from (k30_mkM _ _ _ (⟨1, 0, 0, (⟨#[]⟩ : ByteArray)⟩ : S30) )) (Reps.c4 (show Kd.M k30 _ _ _ (⟨6, 1, 0, (⟨#[43]⟩ : ByteArray)⟩ : S30) [.int .u8 6, .int .i64 1, .int .i64 0, .string (⟨#[43]⟩ : ByteArray)] from (k30_mkM _ _ _ (⟨6, 1, 0, (⟨#[43]⟩ : ByteArray)⟩ : S30) )) (Reps.c4 (show Kd.M k30 _ _ _ (⟨4, 3, (-2), (⟨#[]⟩ : ByteArray)⟩ : S30) [.int .u8 4, .int .i64 3, .int .i64 (-2), .string (⟨#[]⟩ : ByteArray)] from (k30_mkM _ _ _ (⟨4, 3, (-2), (⟨#[]⟩ : ByteArray)⟩ : S30) )) (Reps.c4 (show Kd.M k30 _ _ _ (⟨6, 6, 0, (⟨#[120]⟩ : ByteArray)⟩ : S30) [.int .u8 6, .int .i64 6, .int .i64 0, .string (⟨#[120]⟩ : ByteArray)] from (k30_mkM _ _ _ (⟨6, 6, 0, (⟨#[120]⟩ : ByteArray)⟩ : S30) )) (Reps.c4 (show Kd.M k30 _ _ _ (⟨2, 7, 0, (⟨#[]⟩ : ByteArray)⟩ : S30) [.int .u8 2, .int .i64 7, .int .i64 0, .string (⟨#[]⟩ : ByteArray)] from (k30_mkM _ _ _ (⟨2, 7, 0, (⟨#[]⟩ : ByteArray)⟩ : S30) )) (Reps.none _ _))))))); intro v107 w6 ho7 hb hg_ hnew_; clear hg_ hnew_; (first | rw [← Ny106.out] at ho7 | (simp only [Int.reduceToNat] at ho7; rw [← Ny106.out] at ho7)); have n0_ := Aside0.mk (Kd.R_elder' (by (with_reducible repeat (first | apply Kd.R_alloc | apply Kd.R_drewN | apply Kd.R_drew)); exact HO105.out) (Kd.R_base ho7) hb); have n1_ := Aside0.mk (Kd.R_lower (Kd.R_new' ho7 (Kd.R_lt (by (with_reducible repeat (first | apply Kd.R_alloc | apply Kd.R_drewN | apply Kd.R_drew)); exact HO105.out))) (below_size (by repeat (first | (with_reducible first | exact HB.out | apply below_alloc | apply pw_below_drewN | apply below_drew1) | exact HB.out)))); have n2_ := Aside0.mk (below_step (by repeat (first | (with_reducible first | exact HB.out | apply below_alloc | apply pw_below_drewN | apply below_drew1) | exact HB.out)) hb); clear HO105; clear HB; have HO105 := n0_; have HO108 := n1_; have HB := n2_; clear n0_ n1_ n2_; clear hb ho7; obtain ⟨Ao8, co8, eo8⟩ := Kd.R_slice HO105.out; subst eo8; obtain ⟨Ao9, co9, eo9⟩ := Kd.R_slice HO108.out; subst eo9) | (go_at_call 19; (with_reducible refine (sameC.calls _ _ t101 _ _ y106 t109 _ ?side1 ?side2 ?side3 ?side4 A4.out).mono ?_); (case side1 => repeat (first | exact (Kd.R_reads' HO105.out).2.2 | (with_reducible refine Kd.C_alloc ?_ _) | (with_reducible refine Kd.C_drewN ?_ _) | (with_reducible refine Kd.C_drew ?_))); (case side2 => exact (Kd.R_reads' HO105.out).2.1); (case side3 => repeat (first | exact (Kd.R_reads' HO108.out).2.2 | (with_reducible refine Kd.C_alloc ?_ _) | (with_reducible refine Kd.C_drewN ?_ _) | (with_reducible refine Kd.C_drew ?_))); (case side4 => exact (Kd.R_reads' HO108.out).2.1); rintro e w10 ⟨rfl, hb⟩; have n0_ := Aside0.mk (Kd.R_below (by (with_reducible repeat (first | apply Kd.R_alloc | apply Kd.R_drewN | apply Kd.R_drew)); exact HO105.out) hb); have n1_ := Aside0.mk (Kd.R_below (by (with_reducible repeat (first | apply Kd.R_alloc | apply Kd.R_drewN | apply Kd.R_drew)); exact HO108.out) hb); have n2_ := Aside0.mk (below_step (by repeat (first | (with_reducible first | exact HB.out | apply below_alloc | apply pw_below_drewN | apply below_drew1) | exact HB.out)) hb); clear HO105; clear HO108; clear HB; have HO105 := n0_; have HO108 := n1_; have HB := n2_; clear n0_ n1_ n2_; (try clear hb); (try clear hb2); (try clear hk); (try clear hi)))
      go_ret
      exact ⟨by first | rfl | (simp [errW_none, errW_some] <;> rfl) | (simp [*, errW_none, errW_some] <;> rfl), by repeat (first | (with_reducible first | exact HB.out | apply below_alloc | apply pw_below_drewN | apply below_drew1) | exact HB.out)⟩
    · rw [if_neg c3] at H
      have c3b0 : (t103 == 0) = false := beq_eq_false_iff_ne.mpr c3
      have c3b1 : (t103 != 0) = true := bne_iff_ne.mpr c3
      obtain rfl := Option.some.inj H
      go_enter Tryd.func16, Tryd.ntmps16
      go_wp2_with (first | ((with_reducible refine gate_callee (f := 17) rfl ?_); refine goesL_ (some 5) rfl rfl Tryd.func17 (by kernel_rfl) rfl #[.string (⟨#[40, 43, 32, 45, 50, 32, 120, 41]⟩ : ByteArray)] rfl (by (try simp only [List.map_toArray, List.map_cons, List.map_nil]); first | done | rfl | (simp only [List.length_drop, List.length_take]; rfl)) ?_; (with_reducible refine (lexC.calls (⟨#[40, 43, 32, 45, 50, 32, 120, 41]⟩ : ByteArray) t101 t102 t103 _ ?side1 A1.out).mono ?_); (case side1 => exact GoodW.below HG.out (by repeat (first | (with_reducible first | exact HB.out | apply below_alloc | apply pw_below_drewN | apply below_drew1) | exact HB.out))); rintro e w11 ⟨v104, rfl, ho0, hb⟩; refine ⟨_, rfl, ?_⟩; have n0_ := Aside0.mk (Kd.R_lower ho0 (below_size (by repeat (first | (with_reducible first | exact HB.out | apply below_alloc | apply pw_below_drewN | apply below_drew1) | exact HB.out)))); have n1_ := Aside0.mk (below_step (by repeat (first | (with_reducible first | exact HB.out | apply below_alloc | apply pw_below_drewN | apply below_drew1) | exact HB.out)) hb); clear HB; have HO105 := n0_; have HB := n1_; clear n0_ n1_; (try clear hb); (try clear hb2); (try clear hk); (try clear hi); (try clear ho0)))
      go_ret
      exact ⟨by first | rfl | (simp [errW_none, errW_some] <;> rfl) | (simp [*, errW_none, errW_some] <;> rfl), by repeat (first | (with_reducible first | exact HB.out | apply below_alloc | apply pw_below_drewN | apply below_drew1) | exact HB.out)⟩
  · rw [if_neg c2] at H
    have c2b0 : (t102 == 0) = false := beq_eq_false_iff_ne.mpr c2
    have c2b1 : (t102 != 0) = true := bne_iff_ne.mpr c2
    obtain rfl := Option.some.inj H
    go_enter Tryd.func16, Tryd.ntmps16
    go_wp2_with (first | ((with_reducible refine gate_callee (f := 17) rfl ?_); refine goesL_ (some 5) rfl rfl Tryd.func17 (by kernel_rfl) rfl #[.string (⟨#[40, 43, 32, 45, 50, 32, 120, 41]⟩ : ByteArray)] rfl (by (try simp only [List.map_toArray, List.map_cons, List.map_nil]); first | done | rfl | (simp only [List.length_drop, List.length_take]; rfl)) ?_; (with_reducible refine (lexC.calls (⟨#[40, 43, 32, 45, 50, 32, 120, 41]⟩ : ByteArray) t101 t102 t103 _ ?side1 A1.out).mono ?_); (case side1 => exact GoodW.below HG.out (by repeat (first | (with_reducible first | exact HB.out | apply below_alloc | apply pw_below_drewN | apply below_drew1) | exact HB.out))); rintro e w12 ⟨v104, rfl, ho0, hb⟩; refine ⟨_, rfl, ?_⟩; have n0_ := Aside0.mk (Kd.R_lower ho0 (below_size (by repeat (first | (with_reducible first | exact HB.out | apply below_alloc | apply pw_below_drewN | apply below_drew1) | exact HB.out)))); have n1_ := Aside0.mk (below_step (by repeat (first | (with_reducible first | exact HB.out | apply below_alloc | apply pw_below_drewN | apply below_drew1) | exact HB.out)) hb); clear HB; have HO105 := n0_; have HB := n1_; clear n0_ n1_; (try clear hb); (try clear hb2); (try clear hk); (try clear hi); (try clear ho0)))
    go_ret
    exact ⟨by first | rfl | (simp [errW_none, errW_some] <;> rfl) | (simp [*, errW_none, errW_some] <;> rfl), by repeat (first | (with_reducible first | exact HB.out | apply below_alloc | apply pw_below_drewN | apply below_drew1) | exact HB.out)⟩

end Go.Proofs.YthempkdgmobocaaDoor.R
