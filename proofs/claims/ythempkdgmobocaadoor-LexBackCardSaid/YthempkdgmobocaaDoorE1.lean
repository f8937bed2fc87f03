/- The library's IndexRune and ContainsRune at a rune beyond ASCII, in a text of ASCII bytes: there is none. -/
import Derived.Test.YthempkdgmobocaaDoorSh
import Derived.WalkKit
import Derived.ProofKit
import Derived.Below
import Derived.OwnWalk
import Derived.Deep.QuietTactic
import Derived.BigQuiet
import Derived.Laws.RangeAny
import Derived.Laws.Runes
import Derived.Lib.Hide
import Derived.IntWalk
namespace Go.Proofs.YthempkdgmobocaaDoorE
open Go Go.RowKit

theorem low_byte (n : Nat) (h : 128 ≤ n) (h2 : n < 256) : 128 ≤ (UInt8.ofNat n).toNat := by
  rw [UInt8.toNat_ofNat']; omega
theorem encode_high (r : Int) (h : 128 ≤ r) : ∃ e : ByteArray, Utf8.encode r = e ∧ 2 ≤ e.size ∧ e.size ≤ 4 ∧ ∀ i (hi : i < e.size), i + 1 = e.size → 128 ≤ (e[i]'hi).toNat := by
  refine ⟨_, rfl, ?_⟩
  generalize he : Utf8.encode r = e
  unfold Utf8.encode at he
  generalize hc : (if Utf8.valid r = true then r.toNat else Utf8.runeError) = c at he
  have hc2 : 128 ≤ c := by
    subst hc
    split
    · omega
    · decide
  simp only [] at he
  rw [if_neg (by omega)] at he
  split at he
  · subst he
    refine ⟨by show 2 ≤ 2; omega, by show 2 ≤ 4; omega, fun i hi e => ?_⟩
    obtain rfl : i = 1 := by have : i + 1 = 2 := e; omega
    exact low_byte (0x80 + c % 64) (by omega) (by omega)
  split at he
  · subst he
    refine ⟨by show 2 ≤ 3; omega, by show 3 ≤ 4; omega, fun i hi e => ?_⟩
    obtain rfl : i = 2 := by have : i + 1 = 3 := e; omega
    exact low_byte (0x80 + c % 64) (by omega) (by omega)
  · subst he
    refine ⟨by show 2 ≤ 4; omega, by show 4 ≤ 4; omega, fun i hi e => ?_⟩
    obtain rfl : i = 3 := by have : i + 1 = 4 := e; omega
    exact low_byte (0x80 + c % 64) (by omega) (by omega)

set_option maxHeartbeats 2000000 in
set_option maxRecDepth 100000 in
theorem indexRune_err (s : ByteArray) (ha : ∀ i (hi : i < s.size), (s[i]'hi).toNat < 128) (w : World) :
    Calls Tryd.prog 71 #[.string s, .int .i32 65533] w fun e w' => e = .returned (.int .i64 (-1)) ∧ Below w.heap.size w w' := by
  go_enter Tryd.func71, Tryd.ntmps71
  go_wp2
  go_loopw [4] (fun n w' => ∃ pos : Nat, w' = w.iter s pos) (fun _ w' => s.size - w'.iterPos w.heap.size)
  case atStart => exact ⟨0, rfl⟩
  case round =>
    obtain ⟨pos, rfl⟩ := hrel
    by_cases hp : pos < s.size
    · have hd := decode_ascii s pos hp (ha pos hp)
      have hnx : ∀ ty, (Instr.next (.pointer (some ⟨w.heap.size, 0, none⟩)) true ty).run Tryd.prog (w.iter s pos) = _ := fun ty => run_next_ascii w s pos ty hp (ha pos hp)
      have hlt := ha pos hp
      have hne : (((s[pos]'hp).toNat : Int) == 65533) = false := by rw [beq_eq_false_iff_ne]; omega
      go_wp2
      go_roundw
      case rel => exact ⟨pos + 1, rfl⟩
      case measure => simp; omega
    · have hnx : ∀ ty, (Instr.next (.pointer (some ⟨w.heap.size, 0, none⟩)) true ty).run Tryd.prog (w.iter s pos) = _ := fun ty => run_next_end w s pos ty hp
      go_wp2
      go_ret
      exact ⟨rfl, (Below.refl _ _).alloc (Nat.le_refl _) _⟩

theorem _root_.Go.RowKit.Below.drewN' {B : Nat} {w w1 : World} (h : Below B w w1) (n : Nat) : Below B w (w1.drewN n) := by
  induction n generalizing w1 with
  | zero => exact h
  | succ n ih => rw [← World.drew_drewN]; exact (ih h).drew
theorem indexByte_none (l : List UInt8) (c : UInt8) (h : ∀ x ∈ l, x.toNat < 128) (hc : 128 ≤ c.toNat) : Lib.indexByte l c = -1 := by
  induction l with
  | nil => rfl
  | cons b l ih =>
    have hb := h b (List.mem_cons_self ..)
    have hne : (b == c) = false := by rw [beq_eq_false_iff_ne]; rintro rfl; omega
    have := ih fun x hx => h x (List.mem_cons_of_mem _ hx)
    simp [Lib.indexByte, hne, this]
theorem below_drewN' (w : World) (n : Nat) : Below w.heap.size w (w.drewN n) := by
  induction n with
  | zero => exact Below.refl _ _
  | succ n ih => rw [← World.drew_drewN]; exact ih.drew

set_option maxHeartbeats 2000000 in
set_option maxRecDepth 100000 in
theorem indexRune_high (s : ByteArray) (h4 : 4 ≤ s.size) (hs : s.size ≤ 1000) (ha : ∀ i (hi : i < s.size), (s[i]'hi).toNat < 128) (r : Int) (h0 : 128 ≤ r) (h1 : r ≤ 1114111) (hr : r ≠ 65533) (w : World) :
    Calls Tryd.prog 71 #[.string s, .int .i32 r] w fun e w' => e = .returned (.int .i64 (-1)) ∧ Below w.heap.size w w' := by
  obtain ⟨e, he, e2, e4, eh⟩ := encode_high r h0
  have b1 : decide (r < 128) = false := decide_eq_false (by omega)
  have b2 : (r == 65533) = false := by rw [beq_eq_false_iff_ne]; exact hr
  have u21 : (Tryd.prog.underlying 21).isSome = true := by rw [Tryd.underlying21]; rfl
  have u9 := Tryd.underlying9
  have i1 : (1 : Int) ≤ (e.size : Int) := by omega
  have i2 : (e.size : Int) - 1 < (s.size : Int) := by omega
  have i3 : (e.size : Int) - 1 < (e.size : Int) := by omega
  have i4 : ((e.size : Int) - 1).toNat = e.size - 1 := by omega
  have i5 : e.size - 1 < s.size := by omega
  have i6 : e.size - 1 < e.size := by omega
  have i7 : ((s[e.size - 1].toNat : Int) != (e[e.size - 1].toNat : Int)) = true := by
    have := ha (e.size - 1) i5
    have := eh (e.size - 1) i6 (by omega)
    rw [bne_iff_ne]; omega
  have i8 : IntKind.i64.wrap ((e.size : Int) - 1 + 1) = (e.size : Int) := by rw [IntWalk.i64_in _ (by omega)]; omega
  have i9 : (e.size : Int) ≤ (s.size : Int) := by omega
  have i10 : (0 : Int) ≤ (e.size : Int) := by omega
  have i11 : e.size ≤ s.size := by omega
  have i12 : Lib.indexByte (List.take (s.size - e.size) (List.drop e.size s.data.toList)) e[e.size - 1] < 0 := by
    rw [indexByte_none]
    · omega
    · intro x hx
      have := List.mem_of_mem_drop (List.mem_of_mem_take hx)
      obtain ⟨i, hi, rfl⟩ := List.getElem_of_mem this
      exact ha i (by simpa using hi)
    · exact eh _ i6 (by omega)
  clear hr
  cases hv : Lib.validRune r with
  | true =>
    go_enter Tryd.func71, Tryd.ntmps71
    go_wp2_with (first | (go_at_call 81; refine (Tryd.utf8_ValidRune _ _).mono ?_; rintro e w' ⟨rfl, hw⟩; rw [hw]))
    go_step3
    go_wp2
    refine wp_loop_rounds 1 ?_
    rw [rounds_succ]
    go_wp2
    go_step3
    go_wp2
    go_quiet (fail)
    generalize hq : w.drewN nq = w1
    have HB := below_drewN' w nq
    rw [hq] at HB
    clear hq
    go_wp2
    go_quiet ((go_at_call 43; exact Calls.quiet_of_same (Tryd.strings_IndexByte _ _ _)))
    go_wp2
    rw [Exit.noGoto_ret]
    go_wp2
    try rw [Exit.noGoto_ret]
    go_ret
    exact ⟨rfl, HB.drewN' _⟩
  | false =>
    go_enter Tryd.func71, Tryd.ntmps71
    go_wp2_with (first | (go_at_call 81; refine (Tryd.utf8_ValidRune _ _).mono ?_; rintro e w' ⟨rfl, hw⟩; rw [hw]))
    go_ret
    exact ⟨rfl, Below.refl _ _⟩
end Go.Proofs.YthempkdgmobocaaDoorE
