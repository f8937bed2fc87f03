/- Texts of this claim, one behind the other: El, X3, Md. -/
import Derived.Test.YthempkdgmobocaaDoorBc
import Derived.IntWalk
import Derived.Test.YthempkdgmobocaaDoorBf
section
/- The reference's Ints and Same, of two rows that are the same. -/
namespace Go.Proofs.YthempkdgmobocaaDoorE
open Go Go.RowKit Go.Proofs.YthempkdgmobocaaDoor.L Go.Proofs.YthempkdgmobocaaDoor.N
open Go.Proofs.YthempkdgmobocaaDoorW.PrintWords Go.Proofs.YthempkdgmobocaaDoorW.PrintLast Go.Proofs.YthempkdgmobocaaDoorW.PrintMore

theorem ints_l0 (l : List Int) (hl : l.length ≤ 1000000) (d : Nat) : ∀ (k i : Nat), l.length - i = d → i ≤ l.length → d < k → eddywheelref06_Ints.l0 k l l (i : Int) = some true := by
  induction d with
  | zero =>
    intro k i hd hi hk
    obtain ⟨k, rfl⟩ : ∃ m, k = m + 1 := ⟨k - 1, by omega⟩
    simp only [eddywheelref06_Ints.l0]
    rw [if_neg (by omega)]
  | succ d ih =>
    intro k i hd hi hk
    obtain ⟨k, rfl⟩ : ∃ m, k = m + 1 := ⟨k - 1, by omega⟩
    simp only [eddywheelref06_Ints.l0]
    have hw : wrap64 ((i : Int) + 1) = ((i + 1 : Nat) : Int) := by unfold wrap64; omega
    rw [if_pos (by omega), if_pos (by omega), if_pos (by omega), if_true, hw]
    exact ih k (i + 1) (by omega) (by omega) (by omega)
def RetTrue (w : World) (e : Ending) (w' : World) : Prop := e = .returned (.bool true) ∧ ∃ n, w' = w.drewN n
theorem ints_same (A0 A1 : Option Addr) (c0 c1 : Nat) (l : List Int) (w : World) (h0 : Kd.C (Kd.int .i64) w A0 l.length l) (h1 : Kd.C (Kd.int .i64) w A1 l.length l) (hc0 : l.length ≤ c0) (hc1 : l.length ≤ c1) (hl : l.length ≤ 1000000) :
    Calls Tryd.prog 25 #[.slice A0 l.length c0, .slice A1 l.length c1] w (RetTrue w) := by
  refine (eddywheelref06_Ints.calls (l.length + 1) A0 c0 l A1 c1 l true w h0 hc0 h1 hc1 ?_).mono fun e w' ⟨he, hd⟩ => ⟨he, hd.out⟩
  unfold eddywheelref06_Ints.f
  rw [if_pos rfl]
  exact ints_l0 l hl _ _ 0 rfl (by omega) (by omega)

set_option maxHeartbeats 4000000 in
set_option maxRecDepth 100000 in
theorem same_rows (A0 A1 : Option Addr) (c0 c1 : Nat) (l : List S46) (w : World) (h0 : Kd.C k46 w A0 l.length l) (h1 : Kd.C k46 w A1 l.length l) (_hc0 : l.length ≤ c0) (_hc1 : l.length ≤ c1) (hl : l.length ≤ 1000000) (hin : ∀ x ∈ l, x.f4.length ≤ 1000000) :
    Calls Tryd.prog 24 #[.slice A0 l.length c0, .slice A1 l.length c1] w (RetTrue w) := by
  have H0 := Aside0.mk h0
  have H1 := Aside0.mk h1
  have HI := Aside0.mk hin
  clear h0 h1 hin
  go_enter Tryd.func24, Tryd.ntmps24
  go_wp2
  go_loopw [5] (fun i wr => ∃ xi : Int, 0 ≤ xi ∧ xi ≤ (l.length : Int) ∧ i = .int .i64 xi ∧ ∃ n, wr = w.drewN n) (fun i _ => (l.length - (intOf i).toNat))
  case atStart => exact ⟨0, by omega, by omega, rfl, 0, rfl⟩
  case round =>
    obtain ⟨xi, hx0, hx1, rfl, nd, hw⟩ := hrel
    have hb : Below w.heap.size w wr := by rw [hw]; exact pw_below_drewN (Below.refl _ _) _
    have HW := Aside0.mk hw
    clear hw
    by_cases hlt : xi < (l.length : Int)
    · obtain ⟨ad, A2, c2, e, a0, a1, a2, a3, a4, hl2, hC2⟩ := at_T46 (Kd.C_below H0.out hb) xi hx0 hlt
      obtain ⟨bd, B2, d2, e', b0, b1, b2, b3, b4, hl3, hC3⟩ := at_T46 (Kd.C_below H1.out hb) xi hx0 hlt
      cases e
      cases e'
      have hmem : rd_T46 l xi ∈ l := by
        obtain ⟨i, rfl⟩ := Int.eq_ofNat_of_zero_le hx0
        have hi : i < l.length := by omega
        rw [show rd_T46 l (i : Int) = l[i] by simp [rd_T46, List.getD_eq_getElem?_getD, hi]]
        exact List.getElem_mem _
      have hK := Lib.hid (fun (n : Nat) => ints_same A2 B2 c2 d2 (rd_T46 l xi).f4 (wr.drewN n) (Kd.C_below hC2 (pw_below_drewN (Below.refl _ _) _)) (Kd.C_below hC3 (pw_below_drewN (Below.refl _ _) _)) hl2 hl3 (HI.out _ hmem))
      generalize rd_T46 l xi = t at a0 a1 a2 a3 a4 b0 b1 b2 b3 b4 hK hl2 hl3 hC2 hC3 hmem
      have hlt2 : decide (xi < (l.length : Int)) = true := decide_eq_true hlt
      clear hmem hC2 hC3 hb
      go_wp2
      go_quiet ((go_at_call 25; exact Calls.quiet_of (hK.out _)))
      go_wp2
      go_roundw
      case rel => exact ⟨xi + 1, by omega, by omega, rfl, _, by rw [HW.out, World.drewN_drewN]⟩
      case measure => simp [intOf]; omega
    · clear hb
      go_wp2
      go_ret
      exact ⟨rfl, nd, HW.out⟩
end Go.Proofs.YthempkdgmobocaaDoorE
end
section
/- Contracts of read.Read, of the reference's Read, Same and Ints, by the plain law. -/
namespace Go.Proofs.YthempkdgmobocaaDoorX
open Go Go.RowKit Go.Proofs.YthempkdgmobocaaDoorE Go.Proofs.YthempkdgmobocaaDoor.L Go.Proofs.YthempkdgmobocaaDoor.N Go.Proofs.YthempkdgmobocaaDoorM
open Go.Proofs.YthempkdgmobocaaDoorW.PrintWords

def readC.f (a0 : ByteArray) : Option ((List (S46)) × (List Int) × Int × Int) := some (readR a0)
theorem readC.calls (a0 : ByteArray) (r1 : List (S46)) (r2 : List Int) (r3 : Int) (r4 : Int) (w : World) (hG : GoodW w) (h : readC.f a0 = some (r1, r2, r3, r4)) :
    Calls Tryd.prog 22 #[.string a0] w fun e w' => ∃ v0_ v1_ : Value, e = .returned (.tuple #[v0_, v1_, .int .i64 r3, .int .i64 r4]) ∧ Kd.R k46 46 w' w.heap.size (fun k_ => some k_ ≠ (v1_ : Value).ownBlock) v0_ r1 ∧ Kd.R (Kd.int .i64) 3 w' w.heap.size (fun _ => True) v1_ r2 ∧ Below w.heap.size w w' := by
  have h := Option.some.inj h
  have := (if h0 : (lexR a0).2.2 = 0 then read_ok a0 w hG h0 else read_err a0 w hG h0)
  rw [h] at this
  exact this
def refReadC.f (a0 : ByteArray) : Option ((List (S46)) × (List Int) × Int × Int) := some (readR a0)
theorem refReadC.calls (a0 : ByteArray) (r1 : List (S46)) (r2 : List Int) (r3 : Int) (r4 : Int) (w : World) (h : refReadC.f a0 = some (r1, r2, r3, r4)) :
    Calls Tryd.prog 23 #[.string a0] w fun e w' => ∃ v0_ v1_ : Value, e = .returned (.tuple #[v0_, v1_, .int .i64 r3, .int .i64 r4]) ∧ Kd.R k46 46 w' w.heap.size (fun k_ => some k_ ≠ (v1_ : Value).ownBlock) v0_ r1 ∧ Kd.R (Kd.int .i64) 3 w' w.heap.size (fun _ => True) v1_ r2 ∧ Below w.heap.size w w' := by
  have h := Option.some.inj h
  have := (if h0 : (lexR a0).2.2 = 0 then readF_ok a0 w h0 else readF_err a0 w h0)
  rw [h] at this
  exact this
def intsB (l m : List Int) : Bool := decide (l = m)
def ints6C.f (l0 : List Int) (l1 : List Int) : Option Bool := if l0 = l1 ∧ l0.length ≤ 1000000 then some true else none
theorem ints6C.calls (A0 : Option Addr) (c0 : Nat) (l0 : List Int) (A1 : Option Addr) (c1 : Nat) (l1 : List Int) (r : Bool) (w : World) (hr0 : Kd.C (Kd.int .i64) w A0 l0.length l0) (hc0 : l0.length ≤ c0) (hr1 : Kd.C (Kd.int .i64) w A1 l1.length l1) (hc1 : l1.length ≤ c1) (h : ints6C.f l0 l1 = some r) :
    Calls Tryd.prog 25 #[.slice A0 l0.length c0, .slice A1 l1.length c1] w fun e w' => e = .returned (.bool r) ∧ Below w.heap.size w w' := by
  unfold ints6C.f at h
  split at h
  · rename_i hh
    obtain ⟨rfl, hl⟩ := hh
    cases h
    exact (ints_same A0 A1 c0 c1 l0 w hr0 hr1 hc0 hc1 hl).mono fun e w' ⟨he, n, hw⟩ => ⟨he, by rw [hw]; exact pw_below_drewN (Below.refl _ _) _⟩
  · cases h
theorem ints6C_refl (l : List Int) (h : l.length ≤ 1000000) : ints6C.f l l = some true := by
  unfold ints6C.f; rw [if_pos ⟨rfl, h⟩]
def eq46 (x y : S46) : Bool := x.f0 == y.f0 && x.f1 == y.f1 && x.f2 == y.f2 && x.f3.data.toList == y.f3.data.toList && decide (x.f4 = y.f4)
theorem eq46_eq (x y : S46) (h : eq46 x y = true) : x = y := by
  obtain ⟨a, b, c, d, e⟩ := x
  obtain ⟨a', b', c', d', e'⟩ := y
  simp only [eq46, Bool.and_eq_true, beq_iff_eq, decide_eq_true_eq] at h
  obtain ⟨⟨⟨⟨rfl, rfl⟩, rfl⟩, h⟩, rfl⟩ := h
  have : d = d' := by rw [← Lib.mk_data d, ← Lib.mk_data d', h]
  rw [this]
theorem eq46_refl (x : S46) : eq46 x x = true := by simp [eq46]
def same46 : List S46 → List S46 → Bool
  | [], [] => true
  | x :: a, y :: b => eq46 x y && decide (x.f4.length ≤ 1000000) && same46 a b
  | _, _ => false
theorem same46_eq (l m : List S46) (h : same46 l m = true) : l = m ∧ ∀ x ∈ l, x.f4.length ≤ 1000000 := by
  induction l generalizing m with
  | nil => cases m with
    | nil => exact ⟨rfl, fun x hx => by simp at hx⟩
    | cons y b => simp [same46] at h
  | cons x a ih => cases m with
    | nil => simp [same46] at h
    | cons y b =>
      simp only [same46, Bool.and_eq_true, decide_eq_true_eq] at h
      obtain ⟨h1, h2⟩ := ih b h.2
      refine ⟨by rw [eq46_eq x y h.1.1, h1], fun z hz => ?_⟩
      rcases List.mem_cons.1 hz with rfl | hz
      · exact h.1.2
      · exact h2 z hz
theorem same46_refl (l : List S46) (h : ∀ x ∈ l, x.f4.length ≤ 1000000) : same46 l l = true := by
  induction l with
  | nil => rfl
  | cons x a ih => simp [same46, eq46_refl, h x (List.mem_cons_self ..), ih (fun y hy => h y (List.mem_cons_of_mem _ hy))]
def same6C.f (l0 : List (S46)) (l1 : List (S46)) : Option Bool := if same46 l0 l1 = true ∧ l0.length ≤ 1000000 then some true else none
theorem same6C.calls (A0 : Option Addr) (c0 : Nat) (l0 : List (S46)) (A1 : Option Addr) (c1 : Nat) (l1 : List (S46)) (r : Bool) (w : World) (hr0 : Kd.C k46 w A0 l0.length l0) (hc0 : l0.length ≤ c0) (hr1 : Kd.C k46 w A1 l1.length l1) (hc1 : l1.length ≤ c1) (h : same6C.f l0 l1 = some r) :
    Calls Tryd.prog 24 #[.slice A0 l0.length c0, .slice A1 l1.length c1] w fun e w' => e = .returned (.bool r) ∧ Below w.heap.size w w' := by
  unfold same6C.f at h
  split at h
  · rename_i hh
    obtain ⟨hq, hl⟩ := hh
    obtain ⟨rfl, hin⟩ := same46_eq _ _ hq
    cases h
    exact (same_rows A0 A1 c0 c1 l0 w hr0 hr1 hc0 hc1 hl hin).mono fun e w' ⟨he, n, hw⟩ => ⟨he, by rw [hw]; exact pw_below_drewN (Below.refl _ _) _⟩
  · cases h
theorem same6C_refl (l : List S46) (h : l.length ≤ 1000000) (h2 : ∀ x ∈ l, x.f4.length ≤ 1000000) : same6C.f l l = some true := by
  unfold same6C.f; rw [if_pos ⟨same46_refl l h2, h⟩]
end Go.Proofs.YthempkdgmobocaaDoorX
end
section
/- The plain law of the reader: sizes, and the document's example. -/
namespace Go.Proofs.YthempkdgmobocaaDoorRd
open Go Go.Proofs.YthempkdgmobocaaDoorEd Go.Proofs.YthempkdgmobocaaDoorE Go.Proofs.YthempkdgmobocaaDoorX Go.Proofs.YthempkdgmobocaaDoor.L Go.Proofs.YthempkdgmobocaaDoor.N Go.Proofs.YthempkdgmobocaaDoorM
open Go.Proofs.YthempkdgmobocaaDoorW.PrintWords

theorem put_f4 (M : Nat) (ops : List Opn) : ∀ (row : List S46) (tops : List Int) (x : S46), (∀ y ∈ row, y.f4.length ≤ M) → (∀ o ∈ ops, o.l.length + 1 ≤ M) → x.f4.length ≤ M → ∀ y ∈ (put ops row tops x).row, y.f4.length ≤ M := by
  induction ops with
  | nil =>
    intro row tops x h1 _ h3 y hy
    simp only [put, List.mem_append, List.mem_singleton] at hy
    rcases hy with hy | rfl
    · exact h1 y hy
    · exact h3
  | cons o os ih =>
    intro row tops x h1 h2 h3
    have h4 : ∀ y ∈ row ++ [x], y.f4.length ≤ M := by
      intro y hy
      simp only [List.mem_append, List.mem_singleton] at hy
      rcases hy with hy | rfl
      · exact h1 y hy
      · exact h3
    simp only [put]
    split
    · exact ih _ _ _ h4 (fun o' h' => h2 o' (List.mem_cons_of_mem _ h')) (by have := h2 o (List.mem_cons_self ..); simpa using this)
    · exact h4
structure Sized (N : Nat) (s : St) : Prop where
  small : Small N s
  ops : s.ops.length ≤ 50
  f4 : ∀ y ∈ s.row, y.f4.length ≤ N
theorem tok_f4 (N : Nat) (s : St) (t : S30) (h : Sized N s) : ∀ y ∈ (tok s t).1.row, y.f4.length ≤ N + 60 := by
  have up : ∀ y ∈ s.row, y.f4.length ≤ N + 60 := fun y hy => Nat.le_trans (h.f4 y hy) (by omega)
  have ho : ∀ o ∈ s.ops, o.l.length + 1 ≤ N + 60 := fun o ho => by have := h.small.ops o ho; omega
  unfold tok
  split
  · exact put_f4 _ _ _ _ _ up ho (Nat.zero_le _)
  split
  · exact put_f4 _ _ _ _ _ up ho (Nat.zero_le _)
  split
  · exact put_f4 _ _ _ _ _ up ho (Nat.zero_le _)
  split
  · cases hops : s.ops with
    | nil => exact up
    | cons o os =>
      dsimp only
      split
      · exact up
      · exact put_f4 _ _ _ _ _ up (fun o' h' => ho o' (by rw [hops]; exact List.mem_cons_of_mem _ h')) (by have := h.small.ops o (by rw [hops]; exact List.mem_cons_self ..); dsimp only; omega)
  split
  · exact up
  split
  · refine put_f4 _ _ _ _ _ up (fun o h' => ?_) (Nat.zero_le _)
    rcases List.mem_cons.1 h' with rfl | h'
    · simp
    · exact ho o h'
  · exact up
theorem run_sized (ts : List S30) : ∀ (N : Nat) (s s' : St), Sized N s → run s ts = .ok s' → Sized (N + 60 * ts.length) s' := by
  induction ts with
  | nil => intro N s s' h hr; cases hr; simpa using h
  | cons t ts ih =>
    intro N s s' h hr
    simp only [run] at hr
    split at hr
    · have h2 := tok_small s t N h.small h.ops
      have := ih (N + 60) _ s' ⟨h2.1, h2.2, tok_f4 N s t h⟩ hr
      have e : N + 60 * (t :: ts).length = N + 60 + 60 * ts.length := by simp; omega
      rw [e]; exact this
    · cases hr
theorem sized_nil : Sized 0 ⟨[], [], []⟩ := ⟨⟨Nat.le_refl _, Nat.le_refl _, fun o h => by simp at h⟩, Nat.zero_le _, fun y h => by simp at h⟩
theorem readT_sizes (ts : List S30) (h : ts.length ≤ 4000) : (readT ts).1.length ≤ 1000000 ∧ (readT ts).2.1.length ≤ 1000000 ∧ ∀ x ∈ (readT ts).1, x.f4.length ≤ 1000000 := by
  unfold readT
  cases hr : run ⟨[], [], []⟩ ts with
  | error e => simp [fin2]
  | ok s =>
    have := run_sized ts 0 _ s sized_nil hr
    simp only [fin2]
    cases ho : s.ops with
    | nil => exact ⟨by have := this.small.row; dsimp only; omega, by have := this.small.tops; dsimp only; omega, fun x hx => by have := this.f4 x hx; omega⟩
    | cons o os => simp
theorem readR_sizes (x : ByteArray) : (readR x).1.length ≤ 1000000 ∧ (readR x).2.1.length ≤ 1000000 ∧ ∀ y ∈ (readR x).1, y.f4.length ≤ 1000000 := by
  unfold readR
  split
  · exact readT_sizes _ (Go.Proofs.YthempkdgmobocaaDoorRd.lexR_len x)
  · simp
theorem lex_1 : lexA [40, 97, 32, 39, 98, 41] 0 = .ok [⟨1, 0, 0, []⟩, ⟨6, 1, 0, [97]⟩, ⟨3, 3, 0, []⟩, ⟨6, 4, 0, [98]⟩, ⟨2, 5, 0, []⟩] := by rfl
theorem read_1 : readR (⟨#[40, 97, 32, 39, 98, 41]⟩ : ByteArray) = ([(⟨3, 1, 0, (⟨#[97]⟩ : ByteArray), ([] : List Int)⟩ : S46), (⟨3, 3, 0, (⟨#[113, 117, 111, 116, 101]⟩ : ByteArray), ([] : List Int)⟩ : S46), (⟨3, 4, 0, (⟨#[98]⟩ : ByteArray), ([] : List Int)⟩ : S46), (⟨4, 3, 0, (⟨#[]⟩ : ByteArray), ([1, 2] : List Int)⟩ : S46), (⟨4, 0, 0, (⟨#[]⟩ : ByteArray), ([0, 3] : List Int)⟩ : S46)], [4], 0, 0) := by
  have h : lexR (⟨#[40, 97, 32, 39, 98, 41]⟩ : ByteArray) = ([(⟨1, 0, 0, (⟨#[]⟩ : ByteArray)⟩ : S30), (⟨6, 1, 0, (⟨#[97]⟩ : ByteArray)⟩ : S30), (⟨3, 3, 0, (⟨#[]⟩ : ByteArray)⟩ : S30), (⟨6, 4, 0, (⟨#[98]⟩ : ByteArray)⟩ : S30), (⟨2, 5, 0, (⟨#[]⟩ : ByteArray)⟩ : S30)], 0, 0) := by
    unfold lexR
    rw [if_neg (by decide)]
    show fin [] (lexA [40, 97, 32, 39, 98, 41] 0) = _
    rw [lex_1]
    rfl
  unfold readR
  rw [h]
  rfl
end Go.Proofs.YthempkdgmobocaaDoorRd
end
