/- The walk of lex.token: the token of a word, in the words of the plain law; premise: the two errors of strconv hold an error. -/
import Derived.Test.YthempkdgmobocaaDoorE4
import Derived.Lib.AtoiTie
namespace Go.Proofs.YthempkdgmobocaaDoorE
open Go Go.RowKit Go.Proofs.YthempkdgmobocaaDoorEd

theorem decFrom_val (w : List UInt8) (h : ∀ c ∈ w, isDig c = true) : ∀ acc : Nat, ∃ m : Nat, Lib.decFrom acc w = some m ∧ (m : Int) = w.foldl (fun n c => n * 10 + ((c.toNat : Int) - 48)) (acc : Int) := by
  induction w with
  | nil => intro acc; exact ⟨acc, rfl, rfl⟩
  | cons c r ih =>
    intro acc
    have hc := h c (List.mem_cons_self ..)
    have hc2 : 48 ≤ c.toNat ∧ c.toNat ≤ 57 := by
      rw [isDig_nat] at hc; simpa using hc
    have hd : Lib.digitVal c = some (c.toNat - 48) := by
      unfold Lib.digitVal
      rw [if_pos hc2]
    obtain ⟨m, h1, h2⟩ := ih (fun y hy => h y (List.mem_cons_of_mem _ hy)) (acc * 10 + (c.toNat - 48))
    refine ⟨m, ?_, ?_⟩
    · simp only [Lib.decFrom, hd]
      exact h1
    · rw [h2]
      show _ = List.foldl _ ((acc : Int) * 10 + ((c.toNat : Int) - 48)) r
      congr 1
      omega
theorem decNat_val (w : List UInt8) (hne : w ≠ []) (h : ∀ c ∈ w, isDig c = true) : ∃ m : Nat, Lib.decNat w = some m ∧ (m : Int) = val0 w := by
  obtain ⟨m, h1, h2⟩ := decFrom_val w h 0
  refine ⟨m, ?_, h2⟩
  unfold Lib.decNat
  rw [if_neg (by simpa using hne)]
  exact h1
theorem atoi_num (w : List UInt8) (h : isNum w = true) (hl : w.length ≤ 18) : Lib.atoiAll w = .ok (val w) := by
  rw [Lib.atoiAll_short w hl]
  rcases isNum_cases w h with ⟨r, rfl, hr, hd⟩ | ⟨hw, hd⟩
  · obtain ⟨m, h1, h2⟩ := decNat_val r hr hd
    have : Lib.atoi (45 :: r) = some (-(m : Int)) := by
      simp only [Lib.atoi]
      rw [if_pos (by decide), h1]; rfl
    rw [this, (isNum_neg r hd hr).2, h2]; rfl
  · obtain ⟨m, h1, h2⟩ := decNat_val w hw hd
    rw [(isNum_digs w hd hw).2, ← h2]
    cases w with
    | nil => exact absurd rfl hw
    | cons c r =>
      have hc := hd c (List.mem_cons_self ..)
      have n45 : (c == 45) = false := by rw [beq_eq_false_iff_ne]; rintro rfl; revert hc; decide
      have n43 : (c == 43) = false := by rw [beq_eq_false_iff_ne]; rintro rfl; revert hc; decide
      have : Lib.atoi (c :: r) = some (m : Int) := by
        simp [Lib.atoi, n45, n43, h1]
      rw [this]; rfl

/-- the two errors of strconv's hold an error. -/
def GoodW (w : World) : Prop := (∃ tp p, w.var? Tryd.prog "strconv.ErrSyntax" = some #[.iface tp p]) ∧ ∃ tp p, w.var? Tryd.prog "strconv.ErrRange" = some #[.iface tp p]
theorem var_below {P : Program} {B g : Nat} {W W' : World} {n : String} {cs : Array Value} (h : Below B W W') (hg : P.globalNamed n = some g) (hgB : g < B) (hv : W.var? P n = some cs) : W'.var? P n = some cs := by
  unfold World.var? at hv ⊢
  simp only [hg, Option.bind_some] at hv ⊢
  rw [h.block g hgB]
  exact hv
theorem gSyntax : Tryd.prog.globalNamed "strconv.ErrSyntax" = some 3 := by kernel_rfl
theorem gRange : Tryd.prog.globalNamed "strconv.ErrRange" = some 4 := by kernel_rfl
theorem GoodW.below {w W : World} (h : GoodW w) (hb : Below w.heap.size w W) : GoodW W := by
  obtain ⟨⟨tp, p, h1⟩, ⟨tq, q, h2⟩⟩ := h
  have lt1 : 3 < w.heap.size := World.block_lt_of_cell? w _ (World.var?_cell gSyntax h1 0)
  have lt2 : 4 < w.heap.size := World.block_lt_of_cell? w _ (World.var?_cell gRange h2 0)
  exact ⟨⟨tp, p, var_below hb gSyntax lt1 h1⟩, ⟨tq, q, var_below hb gRange lt2 h2⟩⟩

/-- what lex.token hands back. -/
def tokenR (w : List UInt8) : Int × Int × Int × ByteArray × Int :=
  match one w 0 with
  | .error e => (0, 0, 0, ⟨#[]⟩, e)
  | .ok t => (t.kind, 0, t.n, ⟨t.s.toArray⟩, 0)
def RetTok (r : Int × Int × Int × ByteArray × Int) (w : World) (e : Ending) (w' : World) : Prop :=
  e = .returned (.tuple #[.agg #[.int .u8 r.1, .int .i64 r.2.1, .int .i64 r.2.2.1, .string r.2.2.2.1], .int .i64 r.2.2.2.2]) ∧ Below w.heap.size w w'

theorem bcell {W w1 : World} (hb : Below W.heap.size W w1) : (∀ b o, b < W.heap.size → w1.cell? ⟨b, o, none⟩ = W.cell? ⟨b, o, none⟩) ∧ (∀ b o, b < W.heap.size → w1.frozen? ⟨b, o, none⟩ = W.frozen? ⟨b, o, none⟩) :=
  ⟨fun b o h => hb.cell (p := ⟨b, o, none⟩) h, fun b o h => hb.frozen (p := ⟨b, o, none⟩) h⟩

def RetAtoi (w : World) (e : Ending) (w' : World) : Prop := ∃ v err, e = .returned (.tuple #[.int .i64 v, err]) ∧ Below w.heap.size w w'
theorem atoi_ok (s : ByteArray) (hs : s.size ≤ 140737488355328) (v : Int) (h : Lib.atoiAll s.data.toList = .ok v) (w : World) :
    Calls Tryd.prog 61 #[.string s] w fun e w' => e = .returned (.tuple #[.int .i64 v, .nilIface]) ∧ Below w.heap.size w w' := by
  have h9 : s.size ≤ 9223372036854775806 := by omega
  refine (Tryd.strconv_Atoi_ok s h9 v h w).mono ?_
  rintro e w' ⟨rfl, hw⟩
  refine ⟨rfl, ?_⟩
  rcases hw with rfl | ⟨t, rfl⟩
  · exact Below.refl _ _
  · exact Lib.bytesWorld_below _ _ _
theorem atoi_any (s : ByteArray) (hs : s.size ≤ 140737488355328) (w : World) (hg : GoodW w) : Calls Tryd.prog 61 #[.string s] w (RetAtoi w) := by
  have h9 : s.size ≤ 281474976710656 := by omega
  cases h : Lib.atoiAll s.data.toList
  · rename_i v
    refine (atoi_ok s hs v h w).mono ?_
    rintro e w' ⟨rfl, hB⟩
    exact ⟨v, _, rfl, hB⟩
  · obtain ⟨⟨tp, p, hv⟩, _⟩ := hg
    refine (Any.strconv_Atoi_syntax_var Tryd.laysC172 s h9 h tp p w hv).mono ?_
    rintro e w' ⟨N, rfl, _, _, hB⟩
    exact ⟨_, _, rfl, hB⟩
  · obtain ⟨_, tp, p, hv⟩ := hg
    refine (Tryd.strconv_Atoi_range_var s h9 h tp p w hv).mono ?_
    rintro e w' ⟨N, rfl, _, _, hB⟩
    exact ⟨_, _, rfl, hB⟩

set_option maxHeartbeats 4000000 in
set_option maxRecDepth 100000 in
theorem token_name (s : ByteArray) (hs : s.size ≤ 140737488355328) (hn : isNum s.data.toList = false) (w : World) :
    Calls Tryd.prog 45 #[.string s] w (RetTok (tokenR s.data.toList) w) := by
  have hc0 := fun w => number_calls s w
  rw [hn] at hc0
  have hc := Lib.hid hc0
  clear hc0
  have hz := Lib.size_eq s
  by_cases h32 : 32 < s.size
  · have hr : tokenR s.data.toList = (0, 0, 0, ⟨#[]⟩, 3) := by
      unfold tokenR one; rw [if_neg (by simp [hn]), if_pos (by omega)]
    rw [hr]
    have b1 : decide ((32 : Int) < (s.size : Int)) = true := decide_eq_true (by omega)
    clear hr hz hn
    go_enter Tryd.func45, Tryd.ntmps45
    go_wp2_with (go_at_call 60; refine (hc.out _).mono ?_; rintro e w' ⟨rfl, hB⟩; have HB : Below w.heap.size w w' := ((Below.refl _ _).alloc (Nat.le_refl _) _).trans (hB.mono (by simp)); obtain ⟨hcc, hff⟩ := bcell hB; have hz : w.heap.size < w'.heap.size := by have := hB.size; simp at this; omega)
    refine bodyPost_ret (v := .tuple #[.agg #[.int .u8 0, .int .i64 0, .int .i64 0, .string ⟨#[]⟩], .int .i64 3]) ?_ rfl ?_
    · simp [results, Tryd.results45, go_sem, hcc]
    · refine ⟨rfl, ?_⟩
      repeat (first | exact HB | refine Below.setCell ?_ (show w.heap.size ≤ w.heap.size from Nat.le_refl _) _)
  · have hr : tokenR s.data.toList = (6, 0, 0, s, 0) := by
      unfold tokenR one; rw [if_neg (by simp [hn]), if_neg (by omega)]
    rw [hr]
    have b1 : decide ((32 : Int) < (s.size : Int)) = false := decide_eq_false (by omega)
    clear hr hz hn
    go_enter Tryd.func45, Tryd.ntmps45
    go_wp2_with (go_at_call 60; refine (hc.out _).mono ?_; rintro e w' ⟨rfl, hB⟩; have HB : Below w.heap.size w w' := ((Below.refl _ _).alloc (Nat.le_refl _) _).trans (hB.mono (by simp)); obtain ⟨hcc, hff⟩ := bcell hB; have hz : w.heap.size < w'.heap.size := by have := hB.size; simp at this; omega)
    refine bodyPost_ret (v := .tuple #[.agg #[.int .u8 6, .int .i64 0, .int .i64 0, .string s], .int .i64 0]) ?_ rfl ?_
    · simp [results, Tryd.results45, go_sem, hcc]
    · refine ⟨rfl, ?_⟩
      repeat (first | exact HB | refine Below.setCell ?_ (show w.heap.size ≤ w.heap.size from Nat.le_refl _) _)

set_option maxHeartbeats 4000000 in
set_option maxRecDepth 100000 in
theorem token_long (s : ByteArray) (hs : s.size ≤ 140737488355328) (hn : isNum s.data.toList = true) (hl : 13 < s.size) (w : World) (hg : GoodW w) :
    Calls Tryd.prog 45 #[.string s] w (RetTok (tokenR s.data.toList) w) := by
  have hc0 := fun w => number_calls s w
  rw [hn] at hc0
  have hc := Lib.hid hc0
  have ha := Lib.hid (fun w => atoi_any s hs w)
  clear hc0
  have hz := Lib.size_eq s
  have hr : tokenR s.data.toList = (0, 0, 0, ⟨#[]⟩, 51) := by
    unfold tokenR one; rw [if_pos hn, if_pos (by omega)]
  rw [hr]
  have b1 : decide ((13 : Int) < (s.size : Int)) = true := decide_eq_true (by omega)
  clear hr hz hn
  go_enter Tryd.func45, Tryd.ntmps45
  go_wp2_with (first | (go_at_call 60; refine (hc.out _).mono ?_; rintro e w' ⟨rfl, hB⟩; have HB : Below w.heap.size w w' := ((Below.refl _ _).alloc (Nat.le_refl _) _).trans (hB.mono (by simp)); obtain ⟨hcc, hff⟩ := bcell hB; have hz : w.heap.size < w'.heap.size := by have := hB.size; simp at this; omega) | (go_at_call 61; refine (ha.out _ (hg.below HB)).mono ?_; rintro e w2 ⟨v, err, rfl, hB2⟩; have HB2 : Below w.heap.size w w2 := HB.trans (hB2.mono HB.size); obtain ⟨hcc2, hff2⟩ := bcell hB2; have hz2 : w.heap.size < w2.heap.size := Nat.lt_of_lt_of_le hz hB2.size; have hcc3 := hcc2 w.heap.size; have hff3 := hff2 w.heap.size; clear hcc2 hff2))
  refine bodyPost_ret (v := .tuple #[.agg #[.int .u8 0, .int .i64 0, .int .i64 0, .string ⟨#[]⟩], .int .i64 51]) ?_ rfl ?_
  · simp [results, Tryd.results45, go_sem, hcc, hcc3, hz]
  · refine ⟨rfl, ?_⟩
    repeat (first | exact HB2 | exact HB | refine Below.setCell ?_ (show w.heap.size ≤ w.heap.size from Nat.le_refl _) _)

set_option maxHeartbeats 4000000 in
set_option maxRecDepth 100000 in
theorem token_short (s : ByteArray) (hn : isNum s.data.toList = true) (hl : s.size ≤ 13) (w : World) :
    Calls Tryd.prog 45 #[.string s] w (RetTok (tokenR s.data.toList) w) := by
  have hc0 := fun w => number_calls s w
  rw [hn] at hc0
  have hc := Lib.hid hc0
  have hz := Lib.size_eq s
  have ha := Lib.hid (fun w => atoi_ok s (by omega) _ (atoi_num _ hn (by omega)) w)
  clear hc0
  generalize hv : val s.data.toList = v at ha
  have b1 : decide ((13 : Int) < (s.size : Int)) = false := decide_eq_false (by omega)
  by_cases h1 : v ≤ -1099511627776
  · have hr : tokenR s.data.toList = (0, 0, 0, ⟨#[]⟩, 51) := by
      unfold tokenR one; rw [if_pos hn, hv, if_pos (by omega)]
    rw [hr]
    have b2 : decide (v ≤ -1099511627776) = true := decide_eq_true h1
    clear hv
    clear hr hz hn
    go_enter Tryd.func45, Tryd.ntmps45
    go_wp2_with (first | (go_at_call 60; refine (hc.out _).mono ?_; rintro e w' ⟨rfl, hB⟩; have HB : Below w.heap.size w w' := ((Below.refl _ _).alloc (Nat.le_refl _) _).trans (hB.mono (by simp)); obtain ⟨hcc, hff⟩ := bcell hB; have hz : w.heap.size < w'.heap.size := by have := hB.size; simp at this; omega) | (go_at_call 61; refine (ha.out _).mono ?_; rintro e w2 ⟨rfl, hB2⟩; have HB2 : Below w.heap.size w w2 := HB.trans (hB2.mono HB.size); obtain ⟨hcc2, hff2⟩ := bcell hB2; have hz2 : w.heap.size < w2.heap.size := Nat.lt_of_lt_of_le hz hB2.size; have hcc3 := hcc2 w.heap.size; have hff3 := hff2 w.heap.size; clear hcc2 hff2))
    refine bodyPost_ret (v := .tuple #[.agg #[.int .u8 0, .int .i64 0, .int .i64 0, .string ⟨#[]⟩], .int .i64 51]) ?_ rfl ?_
    · simp [results, Tryd.results45, go_sem, hcc, hcc3, hz]
    · refine ⟨rfl, ?_⟩
      repeat (first | exact HB2 | exact HB | refine Below.setCell ?_ (show w.heap.size ≤ w.heap.size from Nat.le_refl _) _)
  by_cases h2 : 1099511627776 ≤ v
  · have hr : tokenR s.data.toList = (0, 0, 0, ⟨#[]⟩, 51) := by
      unfold tokenR one; rw [if_pos hn, hv, if_pos (by omega)]
    rw [hr]
    have b2 : decide (v ≤ -1099511627776) = false := decide_eq_false h1
    have b3 : decide (1099511627776 ≤ v) = true := decide_eq_true h2
    clear hv
    clear hr hz hn
    go_enter Tryd.func45, Tryd.ntmps45
    go_wp2_with (first | (go_at_call 60; refine (hc.out _).mono ?_; rintro e w' ⟨rfl, hB⟩; have HB : Below w.heap.size w w' := ((Below.refl _ _).alloc (Nat.le_refl _) _).trans (hB.mono (by simp)); obtain ⟨hcc, hff⟩ := bcell hB; have hz : w.heap.size < w'.heap.size := by have := hB.size; simp at this; omega) | (go_at_call 61; refine (ha.out _).mono ?_; rintro e w2 ⟨rfl, hB2⟩; have HB2 : Below w.heap.size w w2 := HB.trans (hB2.mono HB.size); obtain ⟨hcc2, hff2⟩ := bcell hB2; have hz2 : w.heap.size < w2.heap.size := Nat.lt_of_lt_of_le hz hB2.size; have hcc3 := hcc2 w.heap.size; have hff3 := hff2 w.heap.size; clear hcc2 hff2))
    refine bodyPost_ret (v := .tuple #[.agg #[.int .u8 0, .int .i64 0, .int .i64 0, .string ⟨#[]⟩], .int .i64 51]) ?_ rfl ?_
    · simp [results, Tryd.results45, go_sem, hcc, hcc3, hz]
    · refine ⟨rfl, ?_⟩
      repeat (first | exact HB2 | exact HB | refine Below.setCell ?_ (show w.heap.size ≤ w.heap.size from Nat.le_refl _) _)
  · have hr : tokenR s.data.toList = (4, 0, v, ⟨#[]⟩, 0) := by
      unfold tokenR one; rw [if_pos hn, hv, if_neg (by omega)]
    rw [hr]
    have b2 : decide (v ≤ -1099511627776) = false := decide_eq_false h1
    have b3 : decide (1099511627776 ≤ v) = false := decide_eq_false h2
    clear hv
    clear hr hz hn
    go_enter Tryd.func45, Tryd.ntmps45
    go_wp2_with (first | (go_at_call 60; refine (hc.out _).mono ?_; rintro e w' ⟨rfl, hB⟩; have HB : Below w.heap.size w w' := ((Below.refl _ _).alloc (Nat.le_refl _) _).trans (hB.mono (by simp)); obtain ⟨hcc, hff⟩ := bcell hB; have hz : w.heap.size < w'.heap.size := by have := hB.size; simp at this; omega) | (go_at_call 61; refine (ha.out _).mono ?_; rintro e w2 ⟨rfl, hB2⟩; have HB2 : Below w.heap.size w w2 := HB.trans (hB2.mono HB.size); obtain ⟨hcc2, hff2⟩ := bcell hB2; have hz2 : w.heap.size < w2.heap.size := Nat.lt_of_lt_of_le hz hB2.size; have hcc3 := hcc2 w.heap.size; have hff3 := hff2 w.heap.size; clear hcc2 hff2))
    refine bodyPost_ret (v := .tuple #[.agg #[.int .u8 4, .int .i64 0, .int .i64 v, .string ⟨#[]⟩], .int .i64 0]) ?_ rfl ?_
    · simp [results, Tryd.results45, go_sem, hcc, hcc3, hz]
    · refine ⟨rfl, ?_⟩
      repeat (first | exact HB2 | exact HB | refine Below.setCell ?_ (show w.heap.size ≤ w.heap.size from Nat.le_refl _) _)

theorem token_calls (s : ByteArray) (hs : s.size ≤ 140737488355328) (w : World) (hg : GoodW w) : Calls Tryd.prog 45 #[.string s] w (RetTok (tokenR s.data.toList) w) := by
  cases hn : isNum s.data.toList with
  | false => exact token_name s hs hn w
  | true =>
    by_cases hl : s.size ≤ 13
    · exact token_short s hn hl w
    · exact token_long s hs hn (by omega) w hg
end Go.Proofs.YthempkdgmobocaaDoorE
