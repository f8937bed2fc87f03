/- The walk of the law's own digits and text. -/
import Derived.Test.YthempkdgmobocaaDoorX2
namespace Go.Proofs.YthempkdgmobocaaDoorE
open Go Go.RowKit Go.Proofs.YthempkdgmobocaaDoorEd Go.Proofs.YthempkdgmobocaaDoorW.PrintWords Go.Proofs.YthempkdgmobocaaDoorW.PrintLast Go.Proofs.YthempkdgmobocaaDoorW.PrintMore

def RetStr (l : List UInt8) (w : World) (e : Ending) (w' : World) : Prop := e = .returned (.string ⟨l.toArray⟩) ∧ Below w.heap.size w w'

theorem digit_one (m : Nat) (h : m ≤ 9) : strOfNums [(48 + (m : Int))] = ⟨[(48 + m).toUInt8].toArray⟩ := by
  have : (48 + (m : Int)).toNat = 48 + m := by omega
  simp [strOfNums, this]

set_option maxHeartbeats 4000000 in
set_option maxRecDepth 100000 in
theorem digits_small (m : Nat) (h : m ≤ 9) (w : World) : Calls Tryd.prog 35 #[.int .i64 (m : Int)] w (RetStr (natDig m) w) := by
  have hr : natDig m = [(48 + m).toUInt8] := by rw [natDig_eq, if_neg (by omega)]
  rw [hr]
  unfold RetStr
  rw [← digit_one m h]
  obtain ⟨n, hn⟩ : ∃ n : Int, (m : Int) = n := ⟨_, rfl⟩
  have h0 : 0 ≤ n := by omega
  have h9 : n ≤ 9 := by omega
  clear hr
  rw [hn]
  clear hn h m
  have b1 : decide (n < -4398046511104) = false := decide_eq_false (by omega)
  have b2 : decide (n < 0) = false := decide_eq_false (by omega)
  have b3 : decide (9 < n) = false := decide_eq_false (by omega)
  have HB := Aside0.mk (Below.refl w.heap.size w)
  go_enter Tryd.func35, Tryd.ntmps35
  go_wp2_with (first | ((with_reducible refine gate_dst (N := 23) rfl ?_); (try (refine gate_guard (by rfl) ?_; dsimp only)); refine Kd.R_lit (Kd.int .u8) _ 5 ?hg (N := 23) ?hd (xs := ([48 + n] : List Int)) (inner := [.int .u8 (48 + n)]) (ok := fun _ => True) (okp := fun _ => True) ?hr ?hp (fun _ hk => hk) trivial (Below.refl _ _) (Nat.le_refl _) (by simp) ?_; (case hd => rfl); (case hg => rfl); (case hr => first | (go_simp; done) | (go_simp; rfl)); (case hp => exact (Reps.one (show Kd.M (Kd.int .u8) _ _ _ (48 + n) [.int .u8 (48 + n)] from rfl) (Reps.none _ _))); intro v176 w20 ho21 hb hg_ hnew_; clear hg_ hnew_; have HB2 := Aside0.mk (below_step HB.out hb); have hcv22 := own_string (P := Tryd.prog) Tryd.underlying35 Tryd.underlying5 Tryd.underlying9 (Kd.own_of_R ho21)))
  go_ret
  exact ⟨rfl, HB2.out⟩

theorem natDig_len' (m : Nat) (h : m < 10 ^ 19) : (natDig m).length ≤ 19 := natDig_len 18 m h

set_option maxHeartbeats 4000000 in
set_option maxRecDepth 100000 in
theorem digits_nat (m : Nat) : (m : Int) ≤ 9223372036854775807 → ∀ w, Calls Tryd.prog 35 #[.int .i64 (m : Int)] w (RetStr (natDig m) w) := by
  induction m using Nat.strongRecOn with
  | _ m ih =>
  intro hm w
  by_cases h : m ≤ 9
  · exact digits_small m h w
  have ha := Lib.hid (ih (m / 10) (by omega) (by omega))
  have hb := Lib.hid (ih (m % 10) (by omega) (by omega))
  have e : natDig m = natDig (m / 10) ++ natDig (m % 10) := by
    rw [natDig_eq m, if_pos (by omega), natDig_eq (m % 10), if_neg (by omega)]
  have l1 := natDig_len' (m / 10) (by omega)
  have l2 := natDig_len' (m % 10) (by omega)
  rw [e]
  clear ih e
  unfold RetStr at ha hb ⊢
  have e2 : (⟨(natDig (m / 10) ++ natDig (m % 10)).toArray⟩ : ByteArray) = ⟨(natDig (m / 10)).toArray⟩ ++ ⟨(natDig (m % 10)).toArray⟩ := by
    apply ByteArray.ext
    simp
  rw [e2]
  have s1 : (⟨(natDig (m / 10)).toArray⟩ : ByteArray).size ≤ 19 := by simpa [Lib.size_eq] using l1
  have s2 : (⟨(natDig (m % 10)).toArray⟩ : ByteArray).size ≤ 19 := by simpa [Lib.size_eq] using l2
  clear e2 l1 l2
  generalize (⟨(natDig (m / 10)).toArray⟩ : ByteArray) = A at ha s1 ⊢
  generalize (⟨(natDig (m % 10)).toArray⟩ : ByteArray) = B at hb s2 ⊢
  have e3 : ((m / 10 : Nat) : Int) = Int.tdiv (m : Int) 10 := by rw [Int.tdiv_eq_ediv_of_nonneg (by omega)]; omega
  have e4 : ((m % 10 : Nat) : Int) = Int.tmod (m : Int) 10 := by rw [Int.tmod_eq_emod_of_nonneg (by omega)]; omega
  have r3 : -9223372036854775808 ≤ Int.tdiv (m : Int) 10 ∧ Int.tdiv (m : Int) 10 ≤ 9223372036854775807 := by omega
  rw [e3] at ha
  rw [e4] at hb
  obtain ⟨n, hn⟩ : ∃ n : Int, (m : Int) = n := ⟨_, rfl⟩
  rw [hn] at ha hb r3 ⊢
  have b1 : decide (n < -4398046511104) = false := decide_eq_false (by omega)
  have b2 : decide (n < 0) = false := decide_eq_false (by omega)
  have b3 : decide (9 < n) = true := decide_eq_true (by omega)
  have b4 : A.size + B.size ≤ 9223372036854775807 := by omega
  clear e3 e4 hn h hm
  clear m
  go_enter Tryd.func35, Tryd.ntmps35
  go_wp2_with (first | (go_at_call 35; refine (ha.out _).mono ?_; rintro e w1 ⟨rfl, hB1⟩; have ha := 0) | (go_at_call 35; refine (hb.out _).mono ?_; rintro e w2 ⟨rfl, hB2⟩))
  go_ret
  exact ⟨rfl, hB1.trans (hB2.mono hB1.size)⟩

/-- the law's own digits. -/
def digT (n : Int) : List UInt8 := if n < -4398046511104 then [63] else digits n

set_option maxHeartbeats 4000000 in
set_option maxRecDepth 100000 in
theorem digits_calls (n : Int) (hn : n ≤ 9223372036854775807) (w : World) : Calls Tryd.prog 35 #[.int .i64 n] w (RetStr (digT n) w) := by
  by_cases h1 : n < -4398046511104
  · have hr : digT n = [63] := by unfold digT; rw [if_pos h1]
    rw [hr]
    unfold RetStr
    have b1 : decide (n < -4398046511104) = true := decide_eq_true h1
    clear hr h1
    go_enter Tryd.func35, Tryd.ntmps35
    go_wp2
    go_ret
    exact ⟨rfl, Below.refl _ _⟩
  by_cases h2 : n < 0
  · have hr : digT n = 45 :: natDig (-n).toNat := by unfold digT digits; rw [if_neg h1, if_pos h2]
    rw [hr]
    have hm : ((-n).toNat : Int) = -n := by omega
    have ha := digits_nat (-n).toNat (by omega)
    have l1 := natDig_len' (-n).toNat (by omega)
    rw [hm] at ha
    unfold RetStr at ha ⊢
    have e2 : (⟨(45 :: natDig (-n).toNat).toArray⟩ : ByteArray) = ⟨#[45]⟩ ++ ⟨(natDig (-n).toNat).toArray⟩ := by
      apply ByteArray.ext
      simp
    rw [e2]
    have s1 : (⟨(natDig (-n).toNat).toArray⟩ : ByteArray).size ≤ 19 := by simpa [Lib.size_eq] using l1
    clear e2 l1 hr hm
    generalize (⟨(natDig (-n).toNat).toArray⟩ : ByteArray) = A at ha s1 ⊢
    have ha := Lib.hid ha
    have r1 : -9223372036854775808 ≤ -n ∧ -n ≤ 9223372036854775807 := by omega
    have b1 : decide (n < -4398046511104) = false := decide_eq_false h1
    have b2 : decide (n < 0) = true := decide_eq_true h2
    have b4 : 1 + A.size ≤ 9223372036854775807 := Nat.le_trans (Nat.add_le_add_left s1 1) (by decide)
    go_enter Tryd.func35, Tryd.ntmps35
    go_wp2_with (go_at_call 35; refine (ha.out _).mono ?_; rintro e w1 ⟨rfl, hB1⟩)
    go_ret
    exact ⟨rfl, hB1⟩
  · have hr : digT n = natDig n.toNat := by unfold digT digits; rw [if_neg h1, if_neg h2]
    rw [hr]
    have hm : (n.toNat : Int) = n := by omega
    have ha := digits_nat n.toNat (by omega) w
    rw [hm] at ha
    exact ha

/-- the law's own text. -/
def textT (k n : Int) (s : ByteArray) : ByteArray :=
  if k = 1 then ⟨#[40]⟩ else if k = 2 then ⟨#[41]⟩ else if k = 3 then ⟨#[39]⟩ else if k = 4 then ⟨(digT n).toArray⟩
  else if k = 5 then (if n = 1 then ⟨#[35, 116]⟩ else ⟨#[35, 102]⟩) else s

def RetBytes (x : ByteArray) (w : World) (e : Ending) (w' : World) : Prop := e = .returned (.string x) ∧ Below w.heap.size w w'

def mapT (v1 : Value) : Obj := .map #[{ key := .bool true, val := v1, born := 0 }] 1
def mapTF (v1 v2 : Value) : Obj := .map #[{ key := .bool true, val := v1, born := 0 }, { key := .bool false, val := v2, born := 1 }] 2
theorem set_alloc (w : World) (c o o' : Obj) : ({ (w.alloc c).alloc o with heap := ((w.alloc c).alloc o).heap.setIfInBounds (w.heap.size + 1) o' } : World) = (w.alloc c).alloc o' := by
  have e : ((w.heap.push c).push o).setIfInBounds (w.heap.size + 1) o' = (w.heap.push c).push o' := by
    apply Array.ext_getElem?
    intro i
    simp only [Array.getElem?_setIfInBounds, Array.getElem?_push, Array.size_push]
    split <;> (try split) <;> simp_all <;> omega
  have key : ∀ h h', h = h' → ({ (w.alloc c).alloc o with heap := h } : World) = { (w.alloc c).alloc o' with heap := h' } := by rintro _ _ rfl; rfl
  exact key _ _ e
theorem heap_two (w : World) (c o : Obj) : ((w.alloc c).alloc o).heap[w.heap.size + 1]? = some o := by
  have e : (w.heap.push c).size = w.heap.size + 1 := by simp
  show ((w.heap.push c).push o)[w.heap.size + 1]? = some o
  rw [← e, Array.getElem?_push_size]
theorem ins_one (w : World) (c : Obj) (v : Value) : (Instr.mapUpdate 60 (.map (some (w.heap.size + 1))) (.bool true) v).run Tryd.prog ((w.alloc c).alloc (.map #[] 0)) = .ok () ((w.alloc c).alloc (mapT v)) := by
  have hb := heap_two w c (.map #[] 0)
  have hf : Instr.findNow .bool (.bool true) ([] : List MapEntry) 0 = some none := rfl
  have hc : (Instr.checkKey false 10000 4 (.bool true)).run Tryd.prog ((w.alloc c).alloc (.map #[] 0)) = .ok () ((w.alloc c).alloc (.map #[] 0)) := MapKept.run_checkKey (k := .bool true) Tryd.underlying4 (by simp [MapKept.IsKey]) false 9999
  simp [Instr.mapUpdate, run_underlying Tryd.underlying60, MapKept.run_getObj_map hb, hc, MapKept.run_findKey Tryd.underlying4 hf, MapKept.run_setObj_map _ hb, Result.andThen, mapT]
  exact set_alloc w c _ _
theorem ins_two (w : World) (c : Obj) (v1 v : Value) : (Instr.mapUpdate 60 (.map (some (w.heap.size + 1))) (.bool false) v).run Tryd.prog ((w.alloc c).alloc (mapT v1)) = .ok () ((w.alloc c).alloc (mapTF v1 v)) := by
  have hb := heap_two w c (mapT v1)
  unfold mapT at hb ⊢
  have hf : Instr.findNow .bool (.bool false) ([{ key := .bool true, val := v1, born := 0 }] : List MapEntry) 0 = some none := rfl
  have hc : ∀ W, (Instr.checkKey false 10000 4 (.bool false)).run Tryd.prog W = .ok () W := fun W => MapKept.run_checkKey (k := .bool false) Tryd.underlying4 (by simp [MapKept.IsKey]) false 9999
  simp [Instr.mapUpdate, run_underlying Tryd.underlying60, MapKept.run_getObj_map hb, hc, MapKept.run_findKey Tryd.underlying4 hf, MapKept.run_setObj_map _ hb, Result.andThen, mapTF]
  exact set_alloc w c _ _
theorem look_true (w : World) (c : Obj) (v1 v2 : Value) : (Instr.lookup 60 (.map (some (w.heap.size + 1))) (.bool true) false).run Tryd.prog ((w.alloc c).alloc (mapTF v1 v2)) = .ok v1 ((w.alloc c).alloc (mapTF v1 v2)) := by
  have hb := heap_two w c (mapTF v1 v2)
  unfold mapTF at hb ⊢
  have hf : Instr.findNow .bool (.bool true) ([{ key := .bool true, val := v1, born := 0 }, { key := .bool false, val := v2, born := 1 }] : List MapEntry) 0 = some (some (0, v1)) := rfl
  have hc : ∀ W, (Instr.checkKey false 10000 4 (.bool true)).run Tryd.prog W = .ok () W := fun W => MapKept.run_checkKey (k := .bool true) Tryd.underlying4 (by simp [MapKept.IsKey]) false 9999
  simp [Instr.lookup, run_underlying Tryd.underlying60, MapKept.run_getObj_map hb, hc, MapKept.run_findKey Tryd.underlying4 hf, Result.andThen]
theorem look_false (w : World) (c : Obj) (v1 v2 : Value) : (Instr.lookup 60 (.map (some (w.heap.size + 1))) (.bool false) false).run Tryd.prog ((w.alloc c).alloc (mapTF v1 v2)) = .ok v2 ((w.alloc c).alloc (mapTF v1 v2)) := by
  have hb := heap_two w c (mapTF v1 v2)
  unfold mapTF at hb ⊢
  have hf : Instr.findNow .bool (.bool false) ([{ key := .bool true, val := v1, born := 0 }, { key := .bool false, val := v2, born := 1 }] : List MapEntry) 0 = some (some (1, v2)) := rfl
  have hc : ∀ W, (Instr.checkKey false 10000 4 (.bool false)).run Tryd.prog W = .ok () W := fun W => MapKept.run_checkKey (k := .bool false) Tryd.underlying4 (by simp [MapKept.IsKey]) false 9999
  simp [Instr.lookup, run_underlying Tryd.underlying60, MapKept.run_getObj_map hb, hc, MapKept.run_findKey Tryd.underlying4 hf, Result.andThen]

theorem below_one (w : World) (o : Obj) : Below w.heap.size w (w.alloc o) := (Below.refl _ _).alloc (Nat.le_refl _) _
theorem below_two (w : World) (o o' : Obj) : Below w.heap.size w ((w.alloc o).alloc o') := (below_one w o).alloc (by show w.heap.size ≤ (w.heap.push o).size; simp) _

set_option maxHeartbeats 4000000 in
set_option maxRecDepth 100000 in
theorem text_calls (k p n : Int) (s : ByteArray) (hn : n ≤ 9223372036854775807) (w : World) : Calls Tryd.prog 20 #[.agg #[.int .u8 k, .int .i64 p, .int .i64 n, .string s]] w (RetBytes (textT k n s) w) := by
  by_cases h1 : k = 1
  · subst h1
    unfold textT RetBytes
    rw [if_pos rfl]
    go_enter Tryd.func20, Tryd.ntmps20
    go_wp2
    go_ret
    exact ⟨rfl, below_one _ _⟩
  have b1 : decide (k = 1) = false := decide_eq_false h1
  have c1 : (k == 1) = false := by simpa using h1
  by_cases h2 : k = 2
  · subst h2
    unfold textT RetBytes
    rw [if_neg h1, if_pos rfl]
    go_enter Tryd.func20, Tryd.ntmps20
    go_wp2
    go_ret
    exact ⟨rfl, below_one _ _⟩
  have b2 : decide (k = 2) = false := decide_eq_false h2
  have c2 : (k == 2) = false := by simpa using h2
  by_cases h3 : k = 3
  · subst h3
    unfold textT RetBytes
    rw [if_neg h1, if_neg h2, if_pos rfl]
    go_enter Tryd.func20, Tryd.ntmps20
    go_wp2
    go_ret
    exact ⟨rfl, below_one _ _⟩
  have b3 : decide (k = 3) = false := decide_eq_false h3
  have c3 : (k == 3) = false := by simpa using h3
  by_cases h4 : k = 4
  · subst h4
    have ha := Lib.hid (fun w => digits_calls n hn w)
    unfold textT RetBytes
    rw [if_neg h1, if_neg h2, if_neg h3, if_pos rfl]
    unfold RetStr at ha
    generalize (⟨(digT n).toArray⟩ : ByteArray) = A at ha ⊢
    go_enter Tryd.func20, Tryd.ntmps20
    go_wp2_with (go_at_call 35; refine (ha.out _).mono ?_; rintro e w1 ⟨rfl, hB1⟩)
    go_ret
    exact ⟨rfl, (below_one w _).trans (hB1.mono (below_one w _).size)⟩
  have b4 : decide (k = 4) = false := decide_eq_false h4
  have c4 : (k == 4) = false := by simpa using h4
  by_cases h5 : k = 5
  · subst h5
    have hmm := @run_makeMap Tryd.prog
    have hi1 := ins_one
    have hi2 := ins_two
    have hl1 := look_true
    have hl2 := look_false
    by_cases hn1 : n = 1
    · unfold textT RetBytes
      rw [if_neg h1, if_neg h2, if_neg h3, if_neg h4, if_pos rfl, if_pos hn1]
      have d1 : decide (n = 1) = true := decide_eq_true hn1
      have d2 : (n == 1) = true := by simpa using hn1
      clear hn1 hn
      go_enter Tryd.func20, Tryd.ntmps20
      go_wp2
      go_ret
      exact ⟨rfl, below_two _ _ _⟩
    · unfold textT RetBytes
      rw [if_neg h1, if_neg h2, if_neg h3, if_neg h4, if_pos rfl, if_neg hn1]
      have d1 : decide (n = 1) = false := decide_eq_false hn1
      have d2 : (n == 1) = false := by simpa using hn1
      go_enter Tryd.func20, Tryd.ntmps20
      go_wp2
      go_ret
      exact ⟨rfl, below_two _ _ _⟩
  have b5 : decide (k = 5) = false := decide_eq_false h5
  have c5 : (k == 5) = false := by simpa using h5
  unfold textT RetBytes
  rw [if_neg h1, if_neg h2, if_neg h3, if_neg h4, if_neg h5]
  go_enter Tryd.func20, Tryd.ntmps20
  go_wp2
  go_ret
  exact ⟨rfl, below_one _ _⟩
end Go.Proofs.YthempkdgmobocaaDoorE
namespace Go.Proofs.YthempkdgmobocaaDoorX
open Go Go.RowKit Go.Proofs.YthempkdgmobocaaDoorE Go.Proofs.YthempkdgmobocaaDoor.L
/-- the law's own text, as an extern. -/
def textC.f (a0 : Int) (_ : Int) (a2 : Int) (a3 : ByteArray) : Option ByteArray := if a2 ≤ 9223372036854775807 then some (textT a0 a2 a3) else none
theorem textC.calls (a0 : Int) (a1 : Int) (a2 : Int) (a3 : ByteArray) (r : ByteArray) (w : World) (h : textC.f a0 a1 a2 a3 = some r) :
    Calls Tryd.prog 20 #[.agg #[.int .u8 a0, .int .i64 a1, .int .i64 a2, .string a3]] w fun e w' => e = .returned (.string r) ∧ Below w.heap.size w w' := by
  unfold textC.f at h
  split at h
  · rename_i hn
    cases h
    exact text_calls _ _ _ _ hn w
  · cases h
end Go.Proofs.YthempkdgmobocaaDoorX
