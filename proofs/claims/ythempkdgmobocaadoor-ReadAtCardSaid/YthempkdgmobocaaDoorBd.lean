/- Texts of this claim, one behind the other: E8, E9, Ea, Eb, Ec, Ed. -/
import Derived.Test.YthempkdgmobocaaDoorBc
import Derived.Deep.RegionHeld3
import Derived.Deep.DrawnRows
import Derived.StillTailTactics
import Derived.IntWalk
section
/- The walk of read.reader: what was opened last. -/
namespace Go.Proofs.YthempkdgmobocaaDoorE
open Go Go.RowKit Go.Proofs.YthempkdgmobocaaDoorEd Go.Proofs.YthempkdgmobocaaDoor.L Go.Proofs.YthempkdgmobocaaDoor.N
open Go.Proofs.YthempkdgmobocaaDoorW.PrintWords Go.Proofs.YthempkdgmobocaaDoorW.PrintLast Go.Proofs.YthempkdgmobocaaDoorW.PrintMore

/-- A block that is known whole: its cells, which may be written. -/
theorem cell_blk {w : World} {b t : Nat} {cs : Array Value} (h : w.heap[b]? = some (.cells cs t (0, 0))) (j : Nat) (v : Value) (hv : cs[j]? = some v) : w.cell? ⟨b, j, none⟩ = some v := by
  simp [World.cell?, h, hv]
theorem free_blk {w : World} {b t : Nat} {cs : Array Value} (h : w.heap[b]? = some (.cells cs t (0, 0))) (j : Nat) : w.frozen? ⟨b, j, none⟩ = false := by
  simp [World.frozen?, h]

set_option maxHeartbeats 1000000 in
theorem last_none (w : World) (b : Nat) (vr vt : Value) (A : Option Addr) (c : Nat) (h : w.heap[b]? = some (.cells #[vr, vt, .slice A 0 c] 63 (0, 0))) :
    Calls Tryd.prog 37 #[.pointer (some ⟨b, 0, none⟩)] w fun e w' => e = .returned (.pointer none) ∧ w = w' := by
  have c2 := cell_blk h 2 _ rfl
  clear h
  go_enter Tryd.func37, Tryd.ntmps37
  go_wp2
  go_ret
  exact ⟨rfl, rfl⟩

def RetPtr (p : Nat) (w : World) (e : Ending) (w' : World) : Prop := e = .returned (.pointer (some ⟨p, 0, none⟩)) ∧ ∃ n, w' = w.drewN n
set_option maxHeartbeats 1000000 in
theorem last_some (w : World) (b : Nat) (vr vt : Value) (g n c p : Nat) (h : w.heap[b]? = some (.cells #[vr, vt, .slice (some ⟨g, 0, none⟩) (n + 1) c] 63 (0, 0)))
    (hp : w.cell? ⟨g, n, none⟩ = some (.pointer (some ⟨p, 0, none⟩))) (hn : n ≤ 1000000) :
    Calls Tryd.prog 37 #[.pointer (some ⟨b, 0, none⟩)] w (RetPtr p w) := by
  have c2 := cell_blk h 2 _ rfl
  clear h
  have i0 : (0 : Int) ≤ (n : Int) := by omega
  go_enter Tryd.func37, Tryd.ntmps37
  go_wp2
  go_quiet (fail)
  go_wp2
  go_ret
  exact ⟨rfl, _, rfl⟩
end Go.Proofs.YthempkdgmobocaaDoorE
end
section
/- The state of read.reader in memory: whose block is whose. -/
namespace Go.Proofs.YthempkdgmobocaaDoorE
open Go Go.RowKit Go.Proofs.YthempkdgmobocaaDoorEd Go.Proofs.YthempkdgmobocaaDoor.L Go.Proofs.YthempkdgmobocaaDoor.N Go.Proofs.YthempkdgmobocaaDoorM
open Go.Proofs.YthempkdgmobocaaDoorW.PrintWords Go.Proofs.YthempkdgmobocaaDoorW.PrintLast Go.Proofs.YthempkdgmobocaaDoorW.PrintMore

/-- A row whose blocks bear one label: the blocks that bear it have not turned, and bear it still. -/
theorem R_lab {α : Type} {d : Kd α} {e : Nat} {w w1 : World} {base c c' : Nat} {lab lab' : Nat → Nat} {v : Value} {xs : List α} (h : d.R e w base (fun k => lab k = c) v xs)
    (hm : ∀ k, k < w.heap.size → lab k = c → w1.heap[k]? = w.heap[k]? ∧ lab' k = c') : d.R e w1 base (fun k => lab' k = c') v xs :=
  Kd.R_mono (Kd.R_move (Kd.R_bound h) (fun k hk => (hm k hk.2.2.1 hk.1).1)) (fun k hk => (hm k hk.2.2.1 hk.1).2)
/-- lists that are open, the last opened first: what each pointer points to. -/
def Each (w : World) (base : Nat) (lab : Nat → Nat) : List Nat → List Opn → Prop
  | [], [] => True
  | p :: ps, o :: os => (base ≤ p ∧ lab p = 6 + 2 * os.length ∧ ∃ vl, w.heap[p]? = some (.cells #[.int .i64 o.p, .bool o.q, vl] 68 (0, 0)) ∧ (Kd.int .i64).R 3 w base (fun k => lab k = 7 + 2 * os.length) vl o.l) ∧ Each w base lab ps os
  | _, _ => False
theorem lt_of_heap {w : World} {k : Nat} {o : Obj} (h : w.heap[k]? = some o) : k < w.heap.size := (Array.getElem?_eq_some_iff.1 h).1
theorem Each.step {w w1 : World} {base : Nat} {lab lab' : Nat → Nat} : ∀ {ps : List Nat} {os : List Opn}, Each w base lab ps os →
    (∀ k, k < w.heap.size → 6 ≤ lab k → lab k < 6 + 2 * os.length → w1.heap[k]? = w.heap[k]? ∧ lab' k = lab k) → Each w1 base lab' ps os
  | [], [], _, _ => trivial
  | p :: ps, o :: os, ⟨⟨hb, hl, vl, hh, hr⟩, he⟩, hm => by
    have hp := hm p (lt_of_heap hh) (by omega) (by simp; omega)
    refine ⟨⟨hb, hp.2.trans hl, vl, hp.1.trans hh, R_lab hr (fun k hk hc => ?_)⟩, he.step (fun k hk h1 h2 => hm k hk h1 (by simp; omega))⟩
    have := hm k hk (by omega) (by simp; omega)
    exact ⟨this.1, this.2.trans hc⟩
  | [], _ :: _, h, _ => h.elim
  | _ :: _, [], h, _ => h.elim
theorem Each.length {w : World} {base : Nat} {lab : Nat → Nat} : ∀ {ps : List Nat} {os : List Opn}, Each w base lab ps os → ps.length = os.length
  | [], [], _ => rfl
  | _ :: _, _ :: _, h => congrArg (· + 1) h.2.length
  | [], _ :: _, h => h.elim
  | _ :: _, [], h => h.elim
def ptrs (ps : List Nat) : List Value := ps.reverse.map fun p => .pointer (some ⟨p, 0, none⟩)
/-- The reader at block b, its fields, and what is reached from there. -/
structure Rd (w : World) (base b : Nat) (lab : Nat → Nat) (vr vt vo : Value) (s : St) : Prop where
  here : w.heap[b]? = some (.cells #[vr, vt, vo] 63 (0, 0))
  bb : base ≤ b
  lb : lab b = 0
  row : k46.R 46 w base (fun k => lab k = 1) vr s.row
  tops : (Kd.int .i64).R 3 w base (fun k => lab k = 2) vt s.tops
  ptr : ∃ ps, Each w base lab ps s.ops ∧ (∀ k, vo.ownBlock = some k → lab k = 3) ∧ w.ownsRow base 65 1 vo s.ops.length (ptrs ps)
/-- Whatever bears another label than c is as it was; what is new bears c. -/
structure Chg (w w1 : World) (lab lab' : Nat → Nat) (c : Nat) : Prop where
  heap : ∀ k, k < w.heap.size → lab k ≠ c → w1.heap[k]? = w.heap[k]?
  old : ∀ k, k < w.heap.size → lab' k = lab k
def fresh (lab : Nat → Nat) (n c : Nat) : Nat → Nat := fun k => if n ≤ k then c else lab k
theorem fresh_old (lab : Nat → Nat) (n c k : Nat) (h : k < n) : fresh lab n c k = lab k := by unfold fresh; rw [if_neg (by omega)]
theorem fresh_new (lab : Nat → Nat) (n c k : Nat) (h : n ≤ k) : fresh lab n c k = c := by unfold fresh; rw [if_pos h]
theorem Chg.of_grown {w w1 : World} {lab : Nat → Nat} {c n : Nat} {row : Option Nat} (hg : w.grownBy w1 row) (hr : ∀ k, row = some k → lab k = c) (hn : n = w.heap.size) : Chg w w1 lab (fresh lab n c) c :=
  ⟨fun k hk hc => hg.block k hk (fun e => hc (hr k e.symm)), fun k hk => fresh_old _ _ _ _ (by omega)⟩
/-- What is another's (label 5) is as it was. -/
def Keep (lab : Nat → Nat) (w w' : World) : Prop := ∀ k, k < w.heap.size → lab k = 5 → w'.heap[k]? = w.heap[k]?
theorem Keep.refl (lab : Nat → Nat) (w : World) : Keep lab w w := fun _ _ _ => rfl
theorem Keep.trans {lab lab1 : Nat → Nat} {w w1 w2 : World} (h : Keep lab w w1) (hl : ∀ k, k < w.heap.size → lab k = 5 → lab1 k = 5) (hz : w.heap.size ≤ w1.heap.size) (h2 : Keep lab1 w1 w2) : Keep lab w w2 :=
  fun k hk h5 => (h2 k (by omega) (hl k hk h5)).trans (h k hk h5)
theorem Keep.heap {lab : Nat → Nat} {w w1 : World} (h : ∀ k, k < w.heap.size → w1.heap[k]? = w.heap[k]?) : Keep lab w w1 := fun k hk _ => h k hk
theorem Keep.same {lab : Nat → Nat} {w w1 : World} (h : w1.heap = w.heap) : Keep lab w w1 := fun k _ _ => by rw [h]
theorem heap_set_other (w : World) (b j k : Nat) (v : Value) (h : k ≠ b) : (w.setCell ⟨b, j, none⟩ v).heap[k]? = w.heap[k]? := Below.heap_setCell w ⟨b, j, none⟩ v k h
theorem heap_set_at {w : World} {b t : Nat} {cs : Array Value} (h : w.heap[b]? = some (.cells cs t (0, 0))) (j : Nat) (v : Value) : (w.setCell ⟨b, j, none⟩ v).heap[b]? = some (.cells (cs.setIfInBounds j v) t (0, 0)) := by
  simp [World.setCell, Array.getElem?_modify, h]
theorem Keep.set {lab lab' : Nat → Nat} {w w1 : World} {c b : Nat} (h : Chg w w1 lab lab' c) (hc : c ≠ 5) (hb : b < w.heap.size) (hl : lab b ≠ 5) (j : Nat) (v : Value) : Keep lab w (w1.setCell ⟨b, j, none⟩ v) :=
  fun k hk h5 => (heap_set_other w1 b j k v (by rintro rfl; exact hl h5)).trans (h.heap k hk (by omega))
theorem own_lab {w w1 : World} {base : Nat} {e : TypeId} {size n : Nat} {v : Value} {xs : List Value} (h : w.ownsRow base e size v n xs) (hm : ∀ k, k < w.heap.size → v.ownBlock = some k → w1.heap[k]? = w.heap[k]?) : w1.ownsRow base e size v n xs :=
  own_move h (fun k hk => hm k (own_lt h k hk) hk)
/-- the row has grown, and is laid into its field. -/
theorem Rd.rowed {w w1 : World} {base b : Nat} {lab lab' : Nat → Nat} {vr vt vo v1 : Value} {s : St} {x : S46} (h : Rd w base b lab vr vt vo s) (hc : Chg w w1 lab lab' 1)
    (hr : k46.R 46 w1 base (fun k => lab' k = 1) v1 (s.row ++ [x])) : Rd (w1.setCell ⟨b, 0, none⟩ v1) base b lab' v1 vt vo ⟨s.row ++ [x], s.tops, s.ops⟩ := by
  have hb := lt_of_heap h.here
  have h0 := h.lb
  have hb1 : w1.heap[b]? = _ := (hc.heap b hb (by omega)).trans h.here
  have l0 : lab' b = 0 := (hc.old b hb).trans h0
  have key : ∀ k, k < w.heap.size → lab k ≠ 1 → lab k ≠ 0 → (w1.setCell ⟨b, 0, none⟩ v1).heap[k]? = w.heap[k]? ∧ lab' k = lab k := fun k hk h1 h2 =>
    ⟨(heap_set_other w1 b 0 k v1 (by rintro rfl; exact h2 h0)).trans (hc.heap k hk h1), hc.old k hk⟩
  obtain ⟨ps, he, hp, ho⟩ := h.ptr
  refine ⟨heap_set_at hb1 0 v1, h.bb, l0, Kd.R_far (p := ⟨b, 0, none⟩) hr (fun k hk => by rintro rfl; exact absurd (l0.symm.trans hk) (by decide)) v1, R_lab h.tops (fun k hk hl => ?_), ps, he.step (fun k hk h1 _ => key k hk (by omega) (by omega)), fun k hk => ?_, own_lab ho (fun k hk hv => (key k hk (by have := hp k hv; omega) (by have := hp k hv; omega)).1)⟩
  · have := key k hk (by omega) (by omega)
    exact ⟨this.1, this.2.trans hl⟩
  · rw [hc.old k (own_lt ho k hk)]; exact hp k hk
/-- those by themselves have grown. -/
theorem Rd.topped {w w1 : World} {base b : Nat} {lab lab' : Nat → Nat} {vr vt vo v1 : Value} {s : St} {xs : List Int} (h : Rd w base b lab vr vt vo s) (hc : Chg w w1 lab lab' 2)
    (hr : (Kd.int .i64).R 3 w1 base (fun k => lab' k = 2) v1 xs) : Rd (w1.setCell ⟨b, 1, none⟩ v1) base b lab' vr v1 vo ⟨s.row, xs, s.ops⟩ := by
  have hb := lt_of_heap h.here
  have h0 := h.lb
  have hb1 : w1.heap[b]? = _ := (hc.heap b hb (by omega)).trans h.here
  have l0 : lab' b = 0 := (hc.old b hb).trans h0
  have key : ∀ k, k < w.heap.size → lab k ≠ 2 → lab k ≠ 0 → (w1.setCell ⟨b, 1, none⟩ v1).heap[k]? = w.heap[k]? ∧ lab' k = lab k := fun k hk h1 h2 =>
    ⟨(heap_set_other w1 b 1 k v1 (by rintro rfl; exact h2 h0)).trans (hc.heap k hk h1), hc.old k hk⟩
  obtain ⟨ps, he, hp, ho⟩ := h.ptr
  refine ⟨heap_set_at hb1 1 v1, h.bb, l0, R_lab h.row (fun k hk hl => ?_), Kd.R_far (p := ⟨b, 1, none⟩) hr (fun k hk => by rintro rfl; exact absurd (l0.symm.trans hk) (by decide)) v1, ps, he.step (fun k hk h1 _ => key k hk (by omega) (by omega)), fun k hk => ?_, own_lab ho (fun k hk hv => (key k hk (by have := hp k hv; omega) (by have := hp k hv; omega)).1)⟩
  · have := key k hk (by omega) (by omega)
    exact ⟨this.1, this.2.trans hl⟩
  · rw [hc.old k (own_lt ho k hk)]; exact hp k hk
/-- what was opened last has grown. -/
theorem Rd.grew {w w1 : World} {base b p : Nat} {lab lab' : Nat → Nat} {vr vt vo v1 : Value} {row : List S46} {tops : List Int} {o : Opn} {os : List Opn} {xs : List Int} (h : Rd w base b lab vr vt vo ⟨row, tops, o :: os⟩)
    (hp : ∃ ps, Each w base lab (p :: ps) (o :: os) ∧ w.ownsRow base 65 1 vo (os.length + 1) (ptrs (p :: ps))) (hc : Chg w w1 lab lab' (7 + 2 * os.length))
    (hr : (Kd.int .i64).R 3 w1 base (fun k => lab' k = 7 + 2 * os.length) v1 xs) : Rd (w1.setCell ⟨p, 2, none⟩ v1) base b lab' vr vt vo ⟨row, tops, ⟨o.p, o.q, xs⟩ :: os⟩ := by
  obtain ⟨ps, ⟨⟨hpb, hpl, vl, hph, hpr⟩, he⟩, ho⟩ := hp
  have hplt := lt_of_heap hph
  have hb := lt_of_heap h.here
  have h0 := h.lb
  have hbp : b ≠ p := by rintro rfl; omega
  have hb1 : w1.heap[b]? = _ := (hc.heap b hb (by omega)).trans h.here
  have hp1 : w1.heap[p]? = _ := (hc.heap p hplt (by omega)).trans hph
  have lp : lab' p = 6 + 2 * os.length := (hc.old p hplt).trans hpl
  have key : ∀ k, k < w.heap.size → lab k ≠ 7 + 2 * os.length → lab k ≠ 6 + 2 * os.length → (w1.setCell ⟨p, 2, none⟩ v1).heap[k]? = w.heap[k]? ∧ lab' k = lab k := fun k hk h1 h2 =>
    ⟨(heap_set_other w1 p 2 k v1 (by rintro rfl; exact h2 hpl)).trans (hc.heap k hk h1), hc.old k hk⟩
  have hlab : ∀ k, vo.ownBlock = some k → lab k = 3 := by
    obtain ⟨_, _, h, _⟩ := h.ptr
    exact h
  refine ⟨(key b hb (by omega) (by omega)).1.trans h.here, h.bb, (hc.old b hb).trans h0, R_lab h.row (fun k hk hl => ?_), R_lab h.tops (fun k hk hl => ?_), p :: ps, ⟨⟨hpb, lp, v1, heap_set_at hp1 2 v1, Kd.R_far (p := ⟨p, 2, none⟩) hr (fun k hk => by rintro rfl; exact absurd (lp.symm.trans hk) (by omega)) v1⟩, he.step (fun k hk h1 h2 => key k hk (by omega) (by omega))⟩, fun k hk => ?_, own_lab ho (fun k hk hv => (key k hk (by have := hlab k hv; omega) (by have := hlab k hv; omega)).1)⟩
  · have := key k hk (by omega) (by omega)
    exact ⟨this.1, this.2.trans hl⟩
  · have := key k hk (by omega) (by omega)
    exact ⟨this.1, this.2.trans hl⟩
  · rw [hc.old k (own_lt ho k hk)]; exact hlab k hk
theorem ptrs_cons (p : Nat) (ps : List Nat) : ptrs (p :: ps) = ptrs ps ++ [.pointer (some ⟨p, 0, none⟩)] := by simp [ptrs]
/-- what was opened last is taken away; what it has is by itself. -/
theorem Rd.popped {w : World} {base b p n c : Nat} {A : Option Addr} {lab : Nat → Nat} {vr vt vl : Value} {row : List S46} {tops : List Int} {o : Opn} {os : List Opn} (h : Rd w base b lab vr vt (.slice A n c) ⟨row, tops, o :: os⟩)
    (hp : ∃ ps, Each w base lab (p :: ps) (o :: os) ∧ w.ownsRow base 65 1 (.slice A n c) (os.length + 1) (ptrs (p :: ps))) (hv : w.heap[p]? = some (.cells #[.int .i64 o.p, .bool o.q, vl] 68 (0, 0))) :
    ∃ lab', Rd (w.setCell ⟨b, 2, none⟩ (.slice A os.length c)) base b lab' vr vt (.slice A os.length c) ⟨row, tops, os⟩ ∧ (Kd.int .i64).R 3 (w.setCell ⟨b, 2, none⟩ (.slice A os.length c)) base (fun k => lab' k = 4) vl o.l ∧ ∀ k, lab k = 5 → lab' k = 5 := by
  obtain ⟨ps, ⟨⟨hpb, hpl, vl', hph, hpr⟩, he⟩, ho⟩ := hp
  have : vl' = vl := by
    rw [hph] at hv
    injection hv with hv
    injection hv with hv
    injection hv with hv
    injection hv with _ hv
    injection hv with _ hv
    injection hv
  subst this
  have h0 := h.lb
  have hlab : ∀ k, (Value.slice A n c).ownBlock = some k → lab k = 3 := by
    obtain ⟨_, _, h, _⟩ := h.ptr
    exact h
  have hown : (Value.slice A os.length c).ownBlock = (Value.slice A n c).ownBlock := by cases A <;> rfl
  have key : ∀ k, lab k ≠ 0 → (w.setCell ⟨b, 2, none⟩ (.slice A os.length c)).heap[k]? = w.heap[k]? := fun k hk => heap_set_other w b 2 k _ (by rintro rfl; exact hk h0)
  have hn : n = os.length + 1 := by
    rcases ho.2 with ⟨_, h2⟩ | ⟨g, cap, cur, he', _⟩
    · omega
    · injection he'
  subst hn
  refine ⟨fun k => if lab k = 7 + 2 * os.length then 4 else lab k, ⟨heap_set_at h.here 2 _, h.bb, ?_, R_lab h.row (fun k hk hl => ?_), R_lab h.tops (fun k hk hl => ?_), ps, he.step (fun k hk h1 h2 => ?_), fun k hk => ?_, own_lab (w1 := w.setCell ⟨b, 2, none⟩ (.slice A os.length c)) (xs := ptrs ps) ?_ (fun k hk hv => key k (by have := hlab k (hown ▸ hv); omega))⟩, R_lab hpr (fun k hk hl => ?_), fun k hk => (if_neg (by omega)).trans hk⟩
  · rw [if_neg (by omega)]; exact h0
  · exact ⟨key k (by omega), by rw [if_neg (by omega)]; exact hl⟩
  · exact ⟨key k (by omega), by rw [if_neg (by omega)]; exact hl⟩
  · exact ⟨key k (by omega), by rw [if_neg (by omega)]⟩
  · have := hlab k (hown ▸ hk)
    rw [if_neg (by omega)]; exact this
  · have := own_take ho (m := os.length) (by omega)
    rw [ptrs_cons, Nat.mul_one, List.take_append_of_le_length (by have := he.length; simp [ptrs]; omega), List.take_of_length_le (by have := he.length; simp [ptrs]; omega)] at this
    exact this
  · exact ⟨key k (by omega), by rw [if_pos hl]⟩
/-- a new list is open. -/
theorem Rd.pushed {w w1 : World} {base b p : Nat} {lab lab' : Nat → Nat} {vr vt vo v1 : Value} {s : St} {o : Opn} (h : Rd w base b lab vr vt vo s) (hc : Chg w w1 lab lab' 3)
    (hp : base ≤ p) (hl : lab' p = 6 + 2 * s.ops.length) (hh : w1.heap[p]? = some (.cells #[.int .i64 o.p, .bool o.q, .slice none 0 0] 68 (0, 0))) (hol : o.l = [])
    (hv : ∀ k, v1.ownBlock = some k → lab' k = 3) (hr : ∃ ps, Each w base lab ps s.ops ∧ w1.ownsRow base 65 1 v1 (s.ops.length + 1) (ptrs ps ++ [.pointer (some ⟨p, 0, none⟩)])) :
    Rd (w1.setCell ⟨b, 2, none⟩ v1) base b lab' vr vt v1 ⟨s.row, s.tops, o :: s.ops⟩ := by
  obtain ⟨ps, he, ho⟩ := hr
  have hb := lt_of_heap h.here
  have h0 := h.lb
  have hb1 : w1.heap[b]? = _ := (hc.heap b hb (by omega)).trans h.here
  have l0 : lab' b = 0 := (hc.old b hb).trans h0
  have key : ∀ k, k < w.heap.size → lab k ≠ 3 → lab k ≠ 0 → (w1.setCell ⟨b, 2, none⟩ v1).heap[k]? = w.heap[k]? ∧ lab' k = lab k := fun k hk h1 h2 =>
    ⟨(heap_set_other w1 b 2 k v1 (by rintro rfl; exact h2 h0)).trans (hc.heap k hk h1), hc.old k hk⟩
  refine ⟨heap_set_at hb1 2 v1, h.bb, l0, R_lab h.row (fun k hk hl => ?_), R_lab h.tops (fun k hk hl => ?_), p :: ps, ⟨⟨hp, hl, .slice none 0 0, (heap_set_other w1 b 2 p v1 (by rintro rfl; omega)).trans hh, by rw [hol]; exact Kd.R_nil _ _ _ _ _⟩, he.step (fun k hk h1 _ => key k hk (by omega) (by omega))⟩, hv, ?_⟩
  · have := key k hk (by omega) (by omega)
    exact ⟨this.1, this.2.trans hl⟩
  · have := key k hk (by omega) (by omega)
    exact ⟨this.1, this.2.trans hl⟩
  · rw [ptrs_cons]
    exact own_move ho (fun k hk => heap_set_other w1 b 2 k v1 (by rintro rfl; have := hv _ hk; omega))
/-- only what was drawn has turned. -/
theorem Rd.same {w w1 : World} {base b : Nat} {lab : Nat → Nat} {vr vt vo : Value} {s : St} (h : Rd w base b lab vr vt vo s) (hh : w1.heap = w.heap) : Rd w1 base b lab vr vt vo s := by
  obtain ⟨ps, he, hp, ho⟩ := h.ptr
  exact ⟨by rw [hh]; exact h.here, h.bb, h.lb, R_lab h.row (fun k _ hl => ⟨by rw [hh], hl⟩), R_lab h.tops (fun k _ hl => ⟨by rw [hh], hl⟩), ps, he.step (fun k _ _ _ => ⟨by rw [hh], rfl⟩), hp, own_move ho (fun k _ => by rw [hh])⟩
/-- what is new bears a label of its own. -/
theorem Rd.relab {w w1 : World} {base b : Nat} {lab lab' : Nat → Nat} {vr vt vo : Value} {s : St} (h : Rd w base b lab vr vt vo s) (hh : ∀ k, k < w.heap.size → w1.heap[k]? = w.heap[k]?) (hl : ∀ k, k < w.heap.size → lab' k = lab k) : Rd w1 base b lab' vr vt vo s := by
  obtain ⟨ps, he, hp, ho⟩ := h.ptr
  have hb := lt_of_heap h.here
  exact ⟨(hh b hb).trans h.here, h.bb, (hl b hb).trans h.lb, R_lab h.row (fun k hk hl' => ⟨hh k hk, (hl k hk).trans hl'⟩), R_lab h.tops (fun k hk hl' => ⟨hh k hk, (hl k hk).trans hl'⟩), ps, he.step (fun k hk _ _ => ⟨hh k hk, hl k hk⟩), fun k hk => (hl k (own_lt ho k hk)).trans (hp k hk), own_lab ho (fun k hk _ => hh k hk)⟩
end Go.Proofs.YthempkdgmobocaaDoorE
end
section
/- The walk of read.reader: put, close. -/
namespace Go.Proofs.YthempkdgmobocaaDoorE
open Go Go.RowKit Go.Proofs.YthempkdgmobocaaDoorEd Go.Proofs.YthempkdgmobocaaDoor.L Go.Proofs.YthempkdgmobocaaDoor.N Go.Proofs.YthempkdgmobocaaDoorM
open Go.Proofs.YthempkdgmobocaaDoorW.PrintWords Go.Proofs.YthempkdgmobocaaDoorW.PrintLast Go.Proofs.YthempkdgmobocaaDoorW.PrintMore
attribute [local go_sem ↓] Go.wp_at_zero Go.wp_at_succ

theorem info46 : (Tryd.prog.info? 46).map (fun i => (i.zero, i.size, i.bytes)) = some (some (.agg #[(.int .u8 0), (.int .i64 0), (.int .i64 0), (.string ⟨#[]⟩), (.slice none 0 0)]), 5, 64) := by kernel_rfl
theorem info3 : (Tryd.prog.info? 3).map (fun i => (i.zero, i.size, i.bytes)) = some (some (.int .i64 0), 1, 8) := by kernel_rfl
def RdE (w : World) (base b : Nat) (s : St) : Prop := ∃ lab vr vt vo, Rd w base b lab vr vt vo s
def RetRd (lab : Nat → Nat) (base b : Nat) (s : St) (w : World) (e : Ending) (w' : World) : Prop := e = .returned (.tuple #[]) ∧ RdE w' base b s ∧ Below base w w' ∧ Keep lab w w'
theorem push_old (w : World) (o : Obj) (k : Nat) (h : k < w.heap.size) : (w.heap.push o)[k]? = w.heap[k]? := by
  rw [Array.getElem?_push, if_neg (by omega)]
theorem row_ho {w W : World} {base : Nat} {lab : Nat → Nat} {vr : Value} {row : List S46} {o : Obj} (h : k46.R 46 w base (fun k => lab k = 1) vr row) (hW : W.heap = w.heap.push o) :
    k46.R 46 W base (fun k => fresh lab w.heap.size 1 k = 1) vr row :=
  R_lab h (fun k hk hl => ⟨by rw [hW, push_old _ _ _ hk], (fresh_old _ _ _ _ hk).trans hl⟩)
theorem row_hp {w W : World} {base : Nat} {lab : Nat → Nat} {vr vL : Value} {x : S46} {o : Obj} (h : (Kd.int .i64).R 3 w base (fun k => lab k = 1 ∧ some k ≠ vr.ownBlock) vL x.f4) (hW : W.heap = w.heap.push o) :
    k46.M W base (fun k => fresh lab w.heap.size 1 k = 1 ∧ some k ≠ vr.ownBlock) x [.int .u8 x.f0, .int .i64 x.f1, .int .i64 x.f2, .string x.f3, vL] :=
  k46_mkM _ _ _ _ (Kd.R_mono (Kd.R_move (Kd.R_bound h) (fun k hk => by rw [hW, push_old _ _ _ hk.2.2.1])) (fun k hk => ⟨(fresh_old _ _ _ _ hk.2.2.1).trans hk.1.1, hk.1.2⟩))

theorem row_ne {w : World} {base b : Nat} {lab : Nat → Nat} {vr vt vo : Value} {s : St} (h : Rd w base b lab vr vt vo s) : some b ≠ vr.ownBlock := fun e => by
  have h1 := h.row.1 b e.symm
  have h2 := h.lb
  omega
theorem row_new {w : World} {base b : Nat} {lab : Nat → Nat} {vr vt vo : Value} {s : St} (h : Rd w base b lab vr vt vo s) : some w.heap.size ≠ vr.ownBlock := fun e => by
  obtain ⟨inner, ho⟩ := Kd.R_own h.row
  have := own_lt ho _ e.symm
  omega

theorem top_ne {w : World} {base b : Nat} {lab : Nat → Nat} {vr vt vo : Value} {s : St} (h : Rd w base b lab vr vt vo s) : some b ≠ vt.ownBlock := fun e => by
  have h1 := h.tops.1 b e.symm
  have h2 := h.lb
  omega

/-- The second step of put where nothing is open. -/
theorem put_top {w w1 : World} {base b : Nat} {lab : Nat → Nat} {vr vt vo v1 : Value} {s : St} {xs : List Int} (h : Rd w base b lab vr vt vo s)
    (ho : (Kd.int .i64).R 3 w1 base (fun k => fresh lab w.heap.size 2 k = 2) v1 xs) (hg : w.grownBy w1 vt.ownBlock) : Rd (w1.setCell ⟨b, 1, none⟩ v1) base b (fresh lab w.heap.size 2) vr v1 vo ⟨s.row, xs, s.ops⟩ ∧ Keep lab w (w1.setCell ⟨b, 1, none⟩ v1) :=
  ⟨h.topped (Chg.of_grown hg (fun k hk => h.tops.1 k hk) rfl) ho, Keep.set (Chg.of_grown hg (fun k hk => h.tops.1 k hk) rfl) (by decide) (lt_of_heap h.here) (by have := h.lb; omega) _ _⟩

section
variable {P : Program} {ops : Array Oper} {o : Oper} {a : Act} {Q : Exit → Act → World → Prop} {Kc : Act → World → Prop} {α : Type}
/-- append as a step of a region whose draw is behind the box. -/
theorem append_drew (d : Kd α) {w0 W : World} (base : Nat) (hw : Region.wanted o (yielded ops a.tmps) = true) (s x : Operand) (t e : TypeId) (z : Value) (bytes : Nat)
    (ho : o.op = .call { callee := .builtin .append, args := #[s, x], argTypes := #[t, t] })
    (ht : P.underlying t = some (.slice e)) (hinfo : (P.info? e).map (fun i => (i.zero, i.size, i.bytes)) = some (some z, d.sz, bytes)) (hz : z.cells.size = d.sz) (hs0 : 0 < d.sz) (hb0 : 0 < bytes)
    (v : Value) (xs : List α) (p : α) (cs : List Value) (ok okp : Nat → Prop) (hs : a.eval s = v) {H : Nat} (hx : a.eval x = .slice (some ⟨H, 0, none⟩) 1 1) (hH : H = W.heap.size) (hp : d.M W.drew base okp p cs) (hokp : ∀ k, okp k → ok k ∧ some k ≠ v.ownBlock) (hfresh : ∀ k, W.heap.size ≤ k → ok k)
    (HO : d.R e W.drew base ok v xs) (HB : Below base w0 W.drew) (hbase : base ≤ W.heap.size) (hl : (xs.length + 1) * bytes ≤ 140737488355328)
    (h : ∀ v1 w1, d.R e w1 base ok v1 (xs ++ [p]) → Below base w0 w1 → W.drew.grownBy w1 v.ownBlock → (v1.ownBlock = v.ownBlock ∨ ∃ b, v1.ownBlock = some b ∧ W.heap.size ≤ b) → Kc (a.put o.dst v1) w1) :
    if Region.wanted o (yielded ops a.tmps) = true then Oper.wp P o a ((W.alloc (.cells cs.toArray e)).drew) Kc Q else Kc (a.put o.dst undef) ((W.alloc (.cells cs.toArray e)).drew) :=
  Kd.R_append_step (W := W.drew) d base hw s x t e z bytes ho ht hinfo hz hs0 hb0 v xs p cs ok okp hs (by rw [hx, hH]; rfl) hp hokp hfresh HO HB hbase hl h
end

theorem Chg.of_push {w W w1 : World} {lab : Nat → Nat} {c : Nat} {row : Option Nat} {o : Obj} (hg : W.grownBy w1 row) (hr : ∀ k, row = some k → lab k = c) (hW : W.heap = w.heap.push o) : Chg w w1 lab (fresh lab w.heap.size c) c :=
  ⟨fun k hk hc => (hg.block k (by rw [hW]; simp; omega) (fun e => hc (hr k e.symm))).trans (by rw [hW, push_old _ _ _ hk]), fun k hk => fresh_old _ _ _ _ hk⟩
theorem int_ho {w : World} {base c : Nat} {lab : Nat → Nat} {v : Value} {xs : List Int} (h : (Kd.int .i64).R 3 w base (fun k => lab k = c) v xs) : (Kd.int .i64).R 3 w base (fun k => fresh lab w.heap.size c k = c) v xs :=
  R_lab h (fun _ hk hl => ⟨rfl, (fresh_old _ _ _ _ hk).trans hl⟩)
/-- The first step of put: the datum is in the row. -/
theorem put_row {w W w1 : World} {base b : Nat} {lab : Nat → Nat} {vr vt vo v1 : Value} {s : St} {x : S46} {o : Obj} (h : Rd w base b lab vr vt vo s)
    (ho : k46.R 46 w1 base (fun k => fresh lab w.heap.size 1 k = 1) v1 (s.row ++ [x])) (hB : Below base w w1) (hg : W.grownBy w1 vr.ownBlock) (hW : W.heap = w.heap.push o) :
    Rd (w1.setCell ⟨b, 0, none⟩ v1) base b (fresh lab w.heap.size 1) v1 vt vo ⟨s.row ++ [x], s.tops, s.ops⟩ ∧ Below base w (w1.setCell ⟨b, 0, none⟩ v1) ∧ w.heap.size ≤ (w1.setCell ⟨b, 0, none⟩ v1).heap.size ∧ Keep lab w (w1.setCell ⟨b, 0, none⟩ v1) ∧ ∀ k, k < w.heap.size → lab k = 5 → fresh lab w.heap.size 1 k = 5 :=
  ⟨h.rowed (Chg.of_push hg (fun k hk => h.row.1 k hk) hW) ho, hB.setCell h.bb _, (hB.setCell h.bb _).size, Keep.set (Chg.of_push hg (fun k hk => h.row.1 k hk) hW) (by decide) (lt_of_heap h.here) (by have := h.lb; omega) _ _, fun k hk h5 => (fresh_old _ _ _ _ hk).trans h5⟩

set_option maxHeartbeats 2000000 in
theorem put_nil (w : World) (base b : Nat) (lab : Nat → Nat) (vr vt vo vL : Value) (row : List S46) (tops : List Int) (x : S46)
    (h : Rd w base b lab vr vt vo ⟨row, tops, []⟩) (hL : (Kd.int .i64).R 3 w base (fun k => lab k = 1 ∧ some k ≠ vr.ownBlock) vL x.f4) (hb : base ≤ w.heap.size) (h1 : row.length ≤ 1000000) (h2 : tops.length ≤ 1000000) :
    Calls Tryd.prog 48 #[.pointer (some ⟨b, 0, none⟩), .agg #[.int .u8 x.f0, .int .i64 x.f1, .int .i64 x.f2, .string x.f3, vL]] w (RetRd lab base b (put [] row tops x) w) := by
  obtain ⟨Ar, cr, rfl, hlr, -⟩ := Kd.R_reads h.row
  obtain ⟨Ao, co, rfl⟩ : ∃ A c, vo = .slice A 0 c := by
    obtain ⟨ps, _, _, ho⟩ := h.ptr
    exact own_slice ho
  dsimp only at hlr h
  have c0 : w.cell? ⟨b, 0, none⟩ = some (.slice Ar row.length cr) := cell_blk h.here 0 _ rfl
  have f0 := free_blk h.here 0
  have hbl := lt_of_heap h.here
  have HR := Aside0.mk h
  have HL := Aside0.mk hL
  have HN0 := Aside0.mk (row_ne h)
  clear h hL
  go_enter Tryd.func48, Tryd.ntmps48
  go_wp2
  go_region_law
    ((refine append_drew k46 (w0 := w) base (by rfl) (.tmp 15) (.tmp 17) 39 46 (.agg #[(.int .u8 0), (.int .i64 0), (.int .i64 0), (.string ⟨#[]⟩), (.slice none 0 0)]) 64 (by rfl) Tryd.underlying39 info46 rfl (by decide) (by omega) (.slice Ar row.length cr) row x [.int .u8 x.f0, .int .i64 x.f1, .int .i64 x.f2, .string x.f3, vL] (fun k => fresh lab w.heap.size 1 k = 1) (fun k => fresh lab w.heap.size 1 k = 1 ∧ some k ≠ (Value.slice Ar row.length cr).ownBlock) (by rfl) (by rfl) (by simp) (by exact row_hp HL.out rfl) (fun _ hk => hk) (fun k hk => fresh_new _ _ _ _ (by simp at hk; omega)) (by exact row_ho HR.out.row rfl) (by exact ((below_alloc (Below.refl _ _) _).drew).mono hb) (by simp; omega) (by omega) ?_; intro v1 w1 ho1 hB1 hg1 hat1; obtain ⟨A1, d1, hv1⟩ := Kd.R_slice ho1; rw [List.length_append, List.length_singleton] at hv1; subst hv1; have HO1 := Aside0.mk ho1; have HB1 := Aside0.mk hB1; have HG1 := Aside0.mk hg1; have hz1 : b < w1.heap.size := (by have := hB1.size; omega); have fz1 := (World.frozen?_of_block (a := ⟨b, 0, none⟩) (hg1.block b (by simp; omega) HN0.out)).trans ((World.frozen?_of_block (a := ⟨b, 0, none⟩) (by exact push_old _ _ _ hbl)).trans f0); have cz1 := hg1.cell (a := ⟨b, 0, none⟩) ((World.cell?_of_block (a := ⟨b, 0, none⟩) (by exact push_old _ _ _ hbl)).trans c0) HN0.out; clear ho1 hB1 hg1 hat1))
  all_goals
    obtain ⟨hR2, hB2, hz2, hK2, hl2⟩ := put_row HR.out HO1.out HB1.out HG1.out rfl
    clear HO1 HB1 HG1 hz1 fz1 cz1 HR HL HN0 f0 c0
    generalize World.setCell w1 ⟨b, 0, none⟩ (.slice A1 (row.length + 1) d1) = w2 at hR2 hB2 hz2 hK2 ⊢
    have hlt2 := lt_of_heap hR2.here
    have hz3 : base ≤ w2.heap.size := by omega
    obtain ⟨At, ct, rfl, hlt, -⟩ := Kd.R_reads hR2.tops
    dsimp only at hlt hR2
    have c1 : w2.cell? ⟨b, 1, none⟩ = some (.slice At tops.length ct) := cell_blk hR2.here 1 _ rfl
    have f1 := free_blk hR2.here 1
    have hl := Lib.hid (last_none w2 b _ _ Ao co hR2.here)
    have HN1 := Aside0.mk (top_ne hR2)
    have HR2 := Aside0.mk hR2
    have HB2 := Aside0.mk hB2
    have HK2 := Aside0.mk hK2
    have HL2 := Aside0.mk hl2
    clear hR2 hB2 hK2 hl2
    go_wp2_with (first | (go_at_call 37; refine hl.out.mono ?_; rintro e w' ⟨rfl, rfl⟩) | ((with_reducible refine gate_builtin (b := .append) (xs := #[.tmp 29, .tmp 31]) rfl ?_); at_builtin; refine Kd.R_append (Kd.int .i64) (w0 := w) base rfl (.tmp 29) (.tmp 31) 40 3 (.int .i64 0) 8 rfl Tryd.underlying40 info3 rfl (by decide) (by decide) (.slice At tops.length ct) tops (row.length : Int) [.int .i64 row.length] (fun k => fresh (fresh lab w.heap.size 1) w2.heap.size 2 k = 2) (fun _ => False) rfl rfl ?aP (fun _ hk => hk.elim) ?aF ?aO ?aB ?aS ?aL ?_; (case aP => rfl); (case aB => exact HB2.out); (case aF => exact fun k hk => fresh_new _ _ _ _ hk); (case aO => exact int_ho HR2.out.tops); (case aS => exact hz3); (case aL => omega); intro v3 w3 ho3 hB3 hg3 hat3; obtain ⟨A3, d3, hv3⟩ := Kd.R_slice ho3; rw [List.length_append, List.length_singleton] at hv3; subst hv3; have fz3 := (World.frozen?_of_block (a := ⟨b, 1, none⟩) (hg3.block b hlt2 HN1.out)).trans f1; have cz3 := hg3.cell (a := ⟨b, 1, none⟩) c1 HN1.out; have HO3 := Aside0.mk ho3; have HB3 := Aside0.mk hB3; have HG3 := Aside0.mk hg3; clear ho3 hB3 hg3 hat3))
    (try simp only [Exit.inBlock, Exit.then]); refine bodyPost_ret (results_none rfl _ _ _) rfl ?_
    exact ⟨rfl, ⟨_, _, _, _, (put_top HR2.out HO3.out HG3.out).1⟩, HB3.out.setCell HR2.out.bb _, HK2.out.trans HL2.out hz2 (put_top HR2.out HO3.out HG3.out).2⟩
end Go.Proofs.YthempkdgmobocaaDoorE
end
section
/- The walk of read.reader: put where something is open, close. -/
namespace Go.Proofs.YthempkdgmobocaaDoorE
open Go Go.RowKit Go.Proofs.YthempkdgmobocaaDoorEd Go.Proofs.YthempkdgmobocaaDoor.L Go.Proofs.YthempkdgmobocaaDoor.N Go.Proofs.YthempkdgmobocaaDoorM
open Go.Proofs.YthempkdgmobocaaDoorW.PrintWords Go.Proofs.YthempkdgmobocaaDoorW.PrintLast Go.Proofs.YthempkdgmobocaaDoorW.PrintMore
attribute [local go_sem ↓] Go.wp_at_zero Go.wp_at_succ

/-- What put does where os is open. -/
def PutC (os : List Opn) : Prop := ∀ (w : World) (base b : Nat) (lab : Nat → Nat) (vr vt vo vL : Value) (row : List S46) (tops : List Int) (x : S46) (N : Nat),
    Rd w base b lab vr vt vo ⟨row, tops, os⟩ → (Kd.int .i64).R 3 w base (fun k => lab k = 4) vL x.f4 → base ≤ w.heap.size → N + os.length ≤ 1000000 → row.length ≤ N → tops.length ≤ N → (∀ o ∈ os, o.l.length ≤ N) →
    Calls Tryd.prog 48 #[.pointer (some ⟨b, 0, none⟩), .agg #[.int .u8 x.f0, .int .i64 x.f1, .int .i64 x.f2, .string x.f3, vL]] w (RetRd lab base b (put os row tops x) w)
theorem lab4 {w : World} {base b : Nat} {lab : Nat → Nat} {vr vt vo vL : Value} {s : St} {l : List Int} (h : Rd w base b lab vr vt vo s) (hL : (Kd.int .i64).R 3 w base (fun k => lab k = 4) vL l) :
    ∃ lab', Rd w base b lab' vr vt vo s ∧ (Kd.int .i64).R 3 w base (fun k => lab' k = 1 ∧ some k ≠ vr.ownBlock) vL l ∧ ∀ k, lab k = 5 → lab' k = 5 := by
  have hz : ∀ k, lab k ≠ 4 → (if lab k = 4 then 1 else lab k) = lab k := fun k hk => if_neg hk
  obtain ⟨ps, he, hp, ho⟩ := h.ptr
  have h0 := h.lb
  refine ⟨fun k => if lab k = 4 then 1 else lab k, ⟨h.here, h.bb, (hz b (by omega)).trans h0, R_lab h.row (fun k _ hl => ⟨rfl, (hz k (by omega)).trans hl⟩), R_lab h.tops (fun k _ hl => ⟨rfl, (hz k (by omega)).trans hl⟩), ps, he.step (fun k _ h1 _ => ⟨rfl, hz k (by omega)⟩), fun k hk => (hz k (by have := hp k hk; omega)).trans (hp k hk), ho⟩, Kd.R_mono hL (fun k hk => ⟨if_pos hk, fun e => ?_⟩), fun k hk => (hz k (by omega)).trans hk⟩
  have := h.row.1 k e.symm
  omega
theorem put_nil' : PutC [] := by
  intro w base b lab vr vt vo vL row tops x N h hL hb hN h1 h2 _
  obtain ⟨lab', h', hL', h5⟩ := lab4 h hL
  exact (put_nil w base b lab' vr vt vo vL row tops x h' hL' hb (by simp at hN; omega) (by simp at hN; omega)).mono fun e w' ⟨h1, h2, h3, h4⟩ => ⟨h1, h2, h3, fun k hk hl => h4 k hk (h5 k hl)⟩

theorem still_tail {P : Program} {id : Nat} {Q : Exit → Act → World → Prop} {a : Act} {w : World} {l : List Oper} (n : Nat) (hm : P.follows .mixedOrders = true) (hB : Region.lexTailB .any l.toArray n = true)
    (h : ∀ w1, w1 = w.drew → wpStill P l.toArray w1 (fun a' => wpList P l.toArray Q (l.drop n) a' w1) (l.take n) a) : (Code.region id l.toArray true).wp P Q a w :=
  wp_region_still_tail n hm hB (h _ rfl)
theorem setCell_heap {w wd : World} (h : wd.heap = w.heap) (a : Addr) (v : Value) : (wd.setCell a v).heap = (w.setCell a v).heap := by simp [World.setCell, h]
theorem popped_same {w w2 : World} {base b : Nat} {vr vt vo vl : Value} {s : St} {l : List Int} {lab : Nat → Nat} (h : ∃ lab', Rd w base b lab' vr vt vo s ∧ (Kd.int .i64).R 3 w base (fun k => lab' k = 4) vl l ∧ ∀ k, lab k = 5 → lab' k = 5) (hh : w2.heap = w.heap) :
    ∃ lab', Rd w2 base b lab' vr vt vo s ∧ (Kd.int .i64).R 3 w2 base (fun k => lab' k = 4) vl l ∧ ∀ k, lab k = 5 → lab' k = 5 := by
  obtain ⟨lab', h1, h2, h3⟩ := h
  exact ⟨lab', h1.same hh, Kd.R_move h2 (fun k _ => by rw [hh]), h3⟩
/-- what was opened last: its pointer, and what it points to. -/
theorem Rd.top {w : World} {base b : Nat} {lab : Nat → Nat} {vr vt vo : Value} {row : List S46} {tops : List Int} {o : Opn} {os : List Opn} (h : Rd w base b lab vr vt vo ⟨row, tops, o :: os⟩) :
    ∃ p g c Al cl, vo = .slice (some ⟨g, 0, none⟩) (os.length + 1) c ∧ os.length + 1 ≤ c ∧ (∃ ps, Each w base lab (p :: ps) (o :: os) ∧ w.ownsRow base 65 1 vo (os.length + 1) (ptrs (p :: ps))) ∧ w.cell? ⟨g, os.length, none⟩ = some (.pointer (some ⟨p, 0, none⟩)) ∧
      w.heap[p]? = some (.cells #[.int .i64 o.p, .bool o.q, .slice Al o.l.length cl] 68 (0, 0)) ∧ b ≠ p ∧ (Kd.int .i64).R 3 w base (fun k => lab k = 7 + 2 * os.length) (.slice Al o.l.length cl) o.l := by
  obtain ⟨ps, he, hp, ho⟩ := h.ptr
  match ps, he with
  | p :: ps, he =>
    obtain ⟨vl, hh, hr⟩ : ∃ vl, w.heap[p]? = some (.cells #[.int .i64 o.p, .bool o.q, vl] 68 (0, 0)) ∧ (Kd.int .i64).R 3 w base (fun k => lab k = 7 + 2 * os.length) vl o.l := by
      obtain ⟨⟨_, _, vl, hh, hr⟩, _⟩ := he
      exact ⟨vl, hh, hr⟩
    obtain ⟨Al, cl, rfl⟩ := Kd.R_slice hr
    obtain ⟨g, c, hv, _⟩ := ho.form (by simp)
    refine ⟨p, g, c, Al, cl, hv, ?_, ⟨ps, he, ho⟩, ?_, hh, ?_, hr⟩
    · rcases ho.2 with ⟨h', _⟩ | ⟨g', cap', cur, h', _, _, h2, _⟩
      · rw [hv] at h'; cases h'
      · rw [hv] at h'
        injection h' with _ _ h'
        simp at h2
        omega
    · have hl := he.2.length
      have := ho.cells (g := g) (by rw [hv]; rfl) os.length (.pointer (some ⟨p, 0, none⟩)) (by rw [ptrs_cons, List.getElem?_append_right (by simp [ptrs, hl])]; simp [ptrs, hl])
      rwa [add_plain] at this
    · rintro rfl
      have e1 := h.here
      rw [hh] at e1
      injection e1 with e1
      injection e1 with _ e1
      exact absurd e1 (by decide)
set_option maxHeartbeats 2000000 in
set_option maxRecDepth 100000 in
theorem close_calls (os : List Opn) (hP : PutC os) (w : World) (base b : Nat) (lab : Nat → Nat) (vr vt vo : Value) (row : List S46) (tops : List Int) (o : Opn) (N : Nat)
    (h : Rd w base b lab vr vt vo ⟨row, tops, o :: os⟩) (hb : base ≤ w.heap.size) (hN : N + os.length ≤ 1000000) (h1 : row.length ≤ N) (h2 : tops.length ≤ N) (h3 : ∀ o ∈ os, o.l.length ≤ N) :
    Calls Tryd.prog 49 #[.pointer (some ⟨b, 0, none⟩)] w (RetRd lab base b (put os row tops ⟨4, o.p, 0, noS, o.l⟩) w) := by
  obtain ⟨p, g, c, Al, cl, rfl, hcn, hE, hcp, hh, hbp, -⟩ := h.top
  have hl := Lib.hid (last_some w b _ _ g os.length c p h.here hcp (by omega))
  have c2 : w.cell? ⟨b, 2, none⟩ = some (.slice (some ⟨g, 0, none⟩) (os.length + 1) c) := cell_blk h.here 2 _ rfl
  have f2 := free_blk h.here 2
  have p0 : w.cell? ⟨p, 0, none⟩ = some (.int .i64 o.p) := cell_blk hh 0 _ rfl
  have p2 : w.cell? ⟨p, 2, none⟩ = some (.slice Al o.l.length cl) := cell_blk hh 2 _ rfl
  have hbl := lt_of_heap h.here
  have HR := Aside0.mk h
  have HP := Aside0.mk (h.popped hE hh)
  have p00 := Aside0.mk p0
  have p20 := Aside0.mk p2
  have hP := Aside0.mk hP
  have hbp := Aside0.mk hbp
  clear h hE hh hcp
  have n0 : (0 : Int) ≤ (os.length : Int) := by omega
  have n1 : (os.length : Int) ≤ (c : Int) := by omega
  have wn : IntKind.i64.wrap (os.length : Int) = (os.length : Int) := IntWalk.i64_in _ (by omega)
  go_enter Tryd.func49, Tryd.ntmps49
  go_wp2_with (go_at_call 37; refine hl.out.mono ?_; rintro e w' ⟨rfl, nd, rfl⟩)
  refine still_tail 12 (by kernel_rfl) (by kernel_rfl) (fun wd hwd => ?_)
  have hh : wd.heap = w.heap := by rw [hwd]; rfl
  have hB := Aside0.mk (show Below base w wd from by rw [hwd]; exact ((Below.refl _ _).trans (pw_below_drewN (Below.refl _ _) _)).drew)
  have c2 : wd.cell? ⟨b, 2, none⟩ = some (.slice (some ⟨g, 0, none⟩) (os.length + 1) c) := (World.cell?_of_block (by rw [hh])).trans c2
  have f2 : wd.frozen? ⟨b, 2, none⟩ = false := (World.frozen?_of_block (by rw [hh])).trans f2
  have p0 : wd.cell? ⟨p, 0, none⟩ = some (.int .i64 o.p) := (World.cell?_of_block (by rw [hh])).trans p0
  have p2 : wd.cell? ⟨p, 2, none⟩ = some (.slice Al o.l.length cl) := (World.cell?_of_block (by rw [hh])).trans p2
  have HH := Aside0.mk hh
  clear hwd hh
  simp only [List.take_succ_cons, List.take_zero, List.drop_succ_cons, List.drop_zero]
  repeat still_step
  refine wpStill_nil ?_
  go_wp2
  refine still_tail 10 (by kernel_rfl) (by kernel_rfl) (fun w2 hw2 => ?_)
  have hh2 : w2.heap = (w.setCell ⟨b, 2, none⟩ (.slice (some ⟨g, 0, none⟩) os.length c)).heap := by rw [hw2]; exact setCell_heap HH.out _ _
  have hB2 := Aside0.mk (show Below base w w2 from by rw [hw2]; exact (hB.out.setCell HR.out.bb _).drew)
  have hK2 := Aside0.mk (show Keep lab w w2 from fun k hk h5 => by rw [hh2]; exact heap_set_other w b 2 k _ (by rintro rfl; have := HR.out.lb; omega))
  have HP2 := Aside0.mk (popped_same HP.out hh2)
  have p0 : w2.cell? ⟨p, 0, none⟩ = some (.int .i64 o.p) := (World.cell?_of_block (by rw [hh2]; exact heap_set_other w b 2 p _ (Ne.symm hbp.out))).trans p00.out
  have p2 : w2.cell? ⟨p, 2, none⟩ = some (.slice Al o.l.length cl) := (World.cell?_of_block (by rw [hh2]; exact heap_set_other w b 2 p _ (Ne.symm hbp.out))).trans p20.out
  clear hw2 hh2 hB HP HH
  simp only [List.take_succ_cons, List.take_zero, List.drop_succ_cons, List.drop_zero]
  repeat still_step
  refine wpStill_nil ?_
  obtain ⟨lab', hr', hl', hl5'⟩ := HP2.out
  have HP3 := Aside0.mk hr'
  have HL3 := Aside0.mk hl'
  have HL5 := Aside0.mk hl5'
  clear hr' hl' hl5'
  have hC : Hid (Calls Tryd.prog 48 #[.pointer (some ⟨b, 0, none⟩), .agg #[.int .u8 4, .int .i64 o.p, .int .i64 0, .string noS, .slice Al o.l.length cl]] w2 (RetRd lab' base b (put os row tops ⟨4, o.p, 0, noS, o.l⟩) w2)) := by
    have hr := HP3.out
    have hl := HL3.out
    exact Lib.hid (hP.out w2 base b lab' vr vt _ _ row tops ⟨4, o.p, 0, noS, o.l⟩ N hr hl (by have := hB2.out.size; omega) (by omega) h1 h2 h3)
  clear HP2 h3 HP3 HL3
  unfold noS at hC
  go_wp2_with (go_at_call 48; refine hC.out.mono ?_; rintro e w' ⟨rfl, hE, hB3, hK3⟩; have HE := Aside0.mk hE; have HB3 := Aside0.mk hB3; have HK3 := Aside0.mk hK3; clear hE hB3 hK3)
  (try simp only [Exit.inBlock, Exit.then]); first | refine bodyPost_ret (results_none rfl _ _ _) rfl ?_ | refine bodyPost_end (results_none rfl _ _ _) rfl ?_
  exact ⟨rfl, HE.out, hB2.out.trans HB3.out, hK2.out.trans (fun k _ h5 => HL5.out k h5) hB2.out.size HK3.out⟩

def RetP (p : Nat) (w : World) (e : Ending) (w' : World) : Prop := e = .returned (.pointer (some ⟨p, 0, none⟩)) ∧ w'.heap = w.heap ∧ Below w.heap.size w w'
theorem last_p (w : World) (b : Nat) (vr vt : Value) (g n c p : Nat) (h : w.heap[b]? = some (.cells #[vr, vt, .slice (some ⟨g, 0, none⟩) (n + 1) c] 63 (0, 0)))
    (hp : w.cell? ⟨g, n, none⟩ = some (.pointer (some ⟨p, 0, none⟩))) (hn : n ≤ 1000000) :
    Calls Tryd.prog 37 #[.pointer (some ⟨b, 0, none⟩)] w (RetP p w) :=
  (last_some w b vr vt g n c p h hp hn).mono fun e w' ⟨he, k, hw⟩ => by rw [hw]; exact ⟨he, rfl, pw_below_drewN (Below.refl _ _) _⟩
theorem grew_mk {w w1 : World} {base b p : Nat} {lab : Nat → Nat} {vr vt vo vl v1 : Value} {row : List S46} {tops : List Int} {o : Opn} {os : List Opn} {xs : List Int} (h : Rd w base b lab vr vt vo ⟨row, tops, o :: os⟩)
    (hp : ∃ ps, Each w base lab (p :: ps) (o :: os) ∧ w.ownsRow base 65 1 vo (os.length + 1) (ptrs (p :: ps))) (hl : (Kd.int .i64).R 3 w base (fun k => lab k = 7 + 2 * os.length) vl o.l) (hg : w.grownBy w1 vl.ownBlock)
    (hr : (Kd.int .i64).R 3 w1 base (fun k => fresh lab w.heap.size (7 + 2 * os.length) k = 7 + 2 * os.length) v1 xs) : ∃ lab', Rd (w1.setCell ⟨p, 2, none⟩ v1) base b lab' vr vt vo ⟨row, tops, ⟨o.p, o.q, xs⟩ :: os⟩ ∧ Keep lab w (w1.setCell ⟨p, 2, none⟩ v1) ∧ ∀ k, k < w.heap.size → lab k = 5 → lab' k = 5 := by
  have hpl : p < w.heap.size ∧ lab p = 6 + 2 * os.length := by
    obtain ⟨ps, ⟨⟨_, h1, _, hh, _⟩, _⟩, _⟩ := hp
    exact ⟨lt_of_heap hh, h1⟩
  exact ⟨_, h.grew hp (Chg.of_grown hg (fun k hk => hl.1 k hk) rfl) hr, Keep.set (Chg.of_grown hg (fun k hk => hl.1 k hk) rfl) (by omega) hpl.1 (by omega) _ _, fun k hk h5 => (fresh_old _ _ _ _ hk).trans h5⟩
structure TopAt (w : World) (base b : Nat) (lab : Nat → Nat) (vr vt vo : Value) (row : List S46) (tops : List Int) (o : Opn) (os : List Opn) (p : Nat) (vl : Value) : Prop where
  rd : Rd w base b lab vr vt vo ⟨row, tops, o :: os⟩
  each : ∃ ps, Each w base lab (p :: ps) (o :: os) ∧ w.ownsRow base 65 1 vo (os.length + 1) (ptrs (p :: ps))
  here : w.heap[p]? = some (.cells #[.int .i64 o.p, .bool o.q, vl] 68 (0, 0))
  int : (Kd.int .i64).R 3 w base (fun k => lab k = 7 + 2 * os.length) vl o.l
theorem TopAt.same {w w1 : World} {base b : Nat} {lab : Nat → Nat} {vr vt vo : Value} {row : List S46} {tops : List Int} {o : Opn} {os : List Opn} {p : Nat} {vl : Value} (h : TopAt w base b lab vr vt vo row tops o os p vl) (hh : w1.heap = w.heap) : TopAt w1 base b lab vr vt vo row tops o os p vl := by
  obtain ⟨ps, he, ho⟩ := h.each
  exact ⟨h.rd.same hh, ⟨ps, he.step (fun k _ _ _ => ⟨by rw [hh], rfl⟩), own_move ho (fun k _ => by rw [hh])⟩, by rw [hh]; exact h.here, Kd.R_move h.int (fun k _ => by rw [hh])⟩
theorem TopAt.grew {w w1 : World} {base b : Nat} {lab : Nat → Nat} {vr vt vo v1 : Value} {row : List S46} {tops : List Int} {o : Opn} {os : List Opn} {p : Nat} {vl : Value} {xs : List Int} (h : TopAt w base b lab vr vt vo row tops o os p vl) (hg : w.grownBy w1 vl.ownBlock)
    (hr : (Kd.int .i64).R 3 w1 base (fun k => fresh lab w.heap.size (7 + 2 * os.length) k = 7 + 2 * os.length) v1 xs) : ∃ lab', Rd (w1.setCell ⟨p, 2, none⟩ v1) base b lab' vr vt vo ⟨row, tops, ⟨o.p, o.q, xs⟩ :: os⟩ ∧ Keep lab w (w1.setCell ⟨p, 2, none⟩ v1) ∧ ∀ k, k < w.heap.size → lab k = 5 → lab' k = 5 :=
  grew_mk h.rd h.each h.int hg hr
theorem TopAt.ne {w : World} {base b : Nat} {lab : Nat → Nat} {vr vt vo : Value} {row : List S46} {tops : List Int} {o : Opn} {os : List Opn} {p : Nat} {vl : Value} (h : TopAt w base b lab vr vt vo row tops o os p vl) : some p ≠ vl.ownBlock ∧ base ≤ p := by
  obtain ⟨ps, ⟨⟨hb, h1, _⟩, _⟩, _⟩ := h.each
  refine ⟨fun e => ?_, hb⟩
  have := h.int.1 p e.symm
  omega
theorem grew_keep {w w2 w3 : World} {base b : Nat} {lab lab1 : Nat → Nat} {vr vt vo : Value} {s : St} (h : Keep lab w w2 ∧ (∀ k, k < w.heap.size → lab k = 5 → lab1 k = 5) ∧ w.heap.size ≤ w2.heap.size)
    (h2 : ∃ lab', Rd w3 base b lab' vr vt vo s ∧ Keep lab1 w2 w3 ∧ ∀ k, k < w2.heap.size → lab1 k = 5 → lab' k = 5) (hz : w2.heap.size ≤ w3.heap.size) : ∃ lab', Rd w3 base b lab' vr vt vo s ∧ Keep lab w w3 ∧ (∀ k, k < w.heap.size → lab k = 5 → lab' k = 5) ∧ w.heap.size ≤ w3.heap.size := by
  obtain ⟨lab', h3, h4, h5⟩ := h2
  exact ⟨lab', h3, h.1.trans h.2.1 h.2.2 h4, fun k hk hl => h5 k (by omega) (h.2.1 k hk hl), by omega⟩
theorem ptr_ne {w : World} {base p : Nat} {lab : Nat → Nat} {o : Opn} {os : List Opn} {vl : Value} {ps : List Nat} (h : Each w base lab (p :: ps) (o :: os)) (hl : (Kd.int .i64).R 3 w base (fun k => lab k = 7 + 2 * os.length) vl o.l) : some p ≠ vl.ownBlock ∧ base ≤ p := by
  obtain ⟨⟨hb, h1, _⟩, _⟩ := h
  refine ⟨fun e => ?_, hb⟩
  have := hl.1 p e.symm
  omega

set_option maxHeartbeats 4000000 in
set_option maxRecDepth 100000 in
theorem put_cons_aux (o : Opn) (os : List Opn) (w : World) (base b : Nat) (lab : Nat → Nat) (vr vt vo vL : Value) (row : List S46) (tops : List Int) (x : S46)
    (h : Rd w base b lab vr vt vo ⟨row, tops, o :: os⟩) (hL : (Kd.int .i64).R 3 w base (fun k => lab k = 1 ∧ some k ≠ vr.ownBlock) vL x.f4) (hb : base ≤ w.heap.size) (hN : os.length ≤ 1000000) (h1 : row.length ≤ 1000000) (h3 : o.l.length ≤ 1000000)
    (r : St) (hr : (o.q = true ∧ o.l.length = 1 → ∀ (W : World) (lab : Nat → Nat) (vr vt vo : Value), Rd W base b lab vr vt vo ⟨row ++ [x], tops, ⟨o.p, o.q, o.l ++ [(row.length : Int)]⟩ :: os⟩ → base ≤ W.heap.size → Calls Tryd.prog 49 #[.pointer (some ⟨b, 0, none⟩)] W (RetRd lab base b r W)) ∧
      (¬ (o.q = true ∧ o.l.length = 1) → r = ⟨row ++ [x], tops, ⟨o.p, o.q, o.l ++ [(row.length : Int)]⟩ :: os⟩)) :
    Calls Tryd.prog 48 #[.pointer (some ⟨b, 0, none⟩), .agg #[.int .u8 x.f0, .int .i64 x.f1, .int .i64 x.f2, .string x.f3, vL]] w (RetRd lab base b r w) := by
  obtain ⟨Ar, cr, rfl, hlr, -⟩ := Kd.R_reads h.row
  dsimp only at hlr h
  have c0 : w.cell? ⟨b, 0, none⟩ = some (.slice Ar row.length cr) := cell_blk h.here 0 _ rfl
  have f0 := free_blk h.here 0
  have hbl := lt_of_heap h.here
  have HR := Aside0.mk h
  have HL := Aside0.mk hL
  have HN0 := Aside0.mk (row_ne h)
  have Hr := Aside0.mk hr
  clear h hL hr
  go_enter Tryd.func48, Tryd.ntmps48
  go_wp2
  go_region_law
    ((refine append_drew k46 (w0 := w) base (by rfl) (.tmp 15) (.tmp 17) 39 46 (.agg #[(.int .u8 0), (.int .i64 0), (.int .i64 0), (.string ⟨#[]⟩), (.slice none 0 0)]) 64 (by rfl) Tryd.underlying39 info46 rfl (by decide) (by omega) (.slice Ar row.length cr) row x [.int .u8 x.f0, .int .i64 x.f1, .int .i64 x.f2, .string x.f3, vL] (fun k => fresh lab w.heap.size 1 k = 1) (fun k => fresh lab w.heap.size 1 k = 1 ∧ some k ≠ (Value.slice Ar row.length cr).ownBlock) (by rfl) (by rfl) (by simp) (by exact row_hp HL.out rfl) (fun _ hk => hk) (fun k hk => fresh_new _ _ _ _ (by simp at hk; omega)) (by exact row_ho HR.out.row rfl) (by exact ((below_alloc (Below.refl _ _) _).drew).mono hb) (by simp; omega) (by omega) ?_; intro v1 w1 ho1 hB1 hg1 hat1; obtain ⟨A1, d1, hv1⟩ := Kd.R_slice ho1; rw [List.length_append, List.length_singleton] at hv1; subst hv1; have HO1 := Aside0.mk ho1; have HB1 := Aside0.mk hB1; have HG1 := Aside0.mk hg1; have hz1 : b < w1.heap.size := (by have := hB1.size; omega); have fz1 := (World.frozen?_of_block (a := ⟨b, 0, none⟩) (hg1.block b (by simp; omega) HN0.out)).trans ((World.frozen?_of_block (a := ⟨b, 0, none⟩) (by exact push_old _ _ _ hbl)).trans f0); have cz1 := hg1.cell (a := ⟨b, 0, none⟩) ((World.cell?_of_block (a := ⟨b, 0, none⟩) (by exact push_old _ _ _ hbl)).trans c0) HN0.out; clear ho1 hB1 hg1 hat1))
  all_goals
    obtain ⟨hR2, hB2, hz2, hK2, hl2⟩ := put_row HR.out HO1.out HB1.out HG1.out rfl
    clear HO1 HB1 HG1 hz1 fz1 cz1 HR HL HN0 f0 c0
    generalize World.setCell w1 ⟨b, 0, none⟩ (.slice A1 (row.length + 1) d1) = w2 at hR2 hB2 hz2 hK2 ⊢
    generalize fresh lab w.heap.size 1 = lab1 at hR2 hl2
    obtain ⟨p, g, c, Al, cl, rfl, hcn, hE, hcp, hh, hbp, hl6⟩ := hR2.top
    have hl := Lib.hid (last_p w2 b _ _ g os.length c p hR2.here hcp hN)
    have HT2 := Aside0.mk (TopAt.mk hR2 hE hh hl6)
    have HB2 := Aside0.mk hB2
    have hz3 : base ≤ w2.heap.size := by omega
    have HK2 := Aside0.mk (show Keep lab w w2 ∧ (∀ k, k < w.heap.size → lab k = 5 → lab1 k = 5) ∧ w.heap.size ≤ w2.heap.size from ⟨hK2, hl2, hz2⟩)
    clear hR2 hE hcp hh hl6 hbp hB2 hz2 hK2 hl2
    go_wp2_with (first | (go_at_call 37; refine hl.out.mono ?_; rintro e w3 ⟨rfl, hh3, hB3⟩; have HT3 := Aside0.mk (HT2.out.same hh3); have HB3 := Aside0.mk (HB2.out.trans (hB3.mono (by omega))); have p1 : w3.cell? ⟨p, 1, none⟩ = some (.bool o.q) := cell_blk HT3.out.here 1 _ rfl; have p2 : w3.cell? ⟨p, 2, none⟩ = some (.slice Al o.l.length cl) := cell_blk HT3.out.here 2 _ rfl; have f2 := free_blk HT3.out.here 2; have hz3 : base ≤ w3.heap.size := (by rw [hh3]; omega); have HK3 := Aside0.mk (show Keep lab w w3 ∧ (∀ k, k < w.heap.size → lab k = 5 → lab1 k = 5) ∧ w.heap.size ≤ w3.heap.size from ⟨HK2.out.1.trans HK2.out.2.1 HK2.out.2.2 (Keep.same hh3), HK2.out.2.1, by rw [hh3]; exact HK2.out.2.2⟩); clear HK2 hh3 hB3 hl HT2 HB2) | ((with_reducible refine gate_builtin (b := .append) (xs := #[.tmp 39, .tmp 41]) rfl ?_); at_builtin; refine Kd.R_append (Kd.int .i64) (w0 := w) base rfl (.tmp 39) (.tmp 41) 40 3 (.int .i64 0) 8 rfl Tryd.underlying40 info3 rfl (by decide) (by decide) (.slice Al o.l.length cl) o.l (row.length : Int) [.int .i64 row.length] (fun k => fresh lab1 w3.heap.size (7 + 2 * os.length) k = 7 + 2 * os.length) (fun _ => False) rfl rfl ?aP (fun _ hk => hk.elim) ?aF ?aO ?aB ?aS ?aL ?_; (case aP => rfl); (case aB => exact HB3.out); (case aF => exact fun k hk => fresh_new _ _ _ _ hk); (case aO => exact int_ho HT3.out.int); (case aS => exact hz3); (case aL => omega); intro v4 w4 ho4 hB4 hg4 hat4; obtain ⟨A4, d4, hv4⟩ := Kd.R_slice ho4; rw [List.length_append, List.length_singleton] at hv4; subst hv4; have hpl := lt_of_heap HT3.out.here; have q1 := hg4.cell (a := ⟨p, 1, none⟩) p1 HT3.out.ne.1; have q2 := hg4.cell (a := ⟨p, 2, none⟩) p2 HT3.out.ne.1; have g2 := (World.frozen?_of_block (a := ⟨p, 2, none⟩) (hg4.block p hpl HT3.out.ne.1)).trans f2; have hz4 : p < w4.heap.size := (by have := hg4.size; omega); have hz5 : base ≤ w4.heap.size := (by have := hg4.size; omega); have HR5 := Aside0.mk (grew_keep HK3.out (HT3.out.grew hg4 ho4) (by have := hg4.size; simpa [World.setCell] using this)); have HB5 := Aside0.mk (hB4.setCell (p := ⟨p, 2, none⟩) HT3.out.ne.2 (.slice A4 (o.l.length + 1) d4)); clear ho4 hB4 hg4 hat4 p1 p2 f2 HB3 HT3 HK3))
    · have hq1 : o.q = true := by assumption
      have hq2 : o.l.length = 1 := by
        have h2 : ((o.l.length : Int) + 1 == 2) = true := by assumption
        rw [beq_iff_eq] at h2
        omega
      have hq := And.intro hq1 hq2
      clear hq1 hq2
      obtain ⟨lab5, hR5, hK5, hl5, hz6⟩ := HR5.out
      have HK5 := Aside0.mk hK5
      have HL5 := Aside0.mk hl5
      clear hK5 hl5
      refine (Hr.out.1 hq _ lab5 _ _ _ hR5 (by simpa [World.setCell] using hz5)).mono ?_
      rintro e w' ⟨rfl, hE, hB, hK⟩
      have HE := Aside0.mk hE
      have HB := Aside0.mk hB
      have HK := Aside0.mk hK
      clear hE hB hq hR5 hK
      go_wp2
      (try simp only [Exit.inBlock, Exit.then]); first | refine bodyPost_ret (results_none rfl _ _ _) rfl ?_ | refine bodyPost_end (results_none rfl _ _ _) rfl ?_
      exact ⟨rfl, HE.out, HB5.out.trans HB.out, HK5.out.trans HL5.out hz6 HK.out⟩
    · have hq : ¬ (o.q = true ∧ o.l.length = 1) := fun hq => by
        have h2 : ((o.l.length : Int) + 1 == 2) = false := by assumption
        rw [hq.2] at h2
        exact absurd h2 (by decide)
      obtain ⟨lab5, hR5, hK5, hl5, hz6⟩ := HR5.out
      rw [Hr.out.2 hq]
      (try simp only [Exit.inBlock, Exit.then]); first | refine bodyPost_ret (results_none rfl _ _ _) rfl ?_ | refine bodyPost_end (results_none rfl _ _ _) rfl ?_
      exact ⟨rfl, ⟨lab5, _, _, _, hR5⟩, HB5.out, hK5⟩
    · have hq : ¬ (o.q = true ∧ o.l.length = 1) := fun hq => by
        have h2 : ¬ o.q = true := by assumption
        exact h2 hq.1
      obtain ⟨lab5, hR5, hK5, hl5, hz6⟩ := HR5.out
      rw [Hr.out.2 hq]
      (try simp only [Exit.inBlock, Exit.then]); first | refine bodyPost_ret (results_none rfl _ _ _) rfl ?_ | refine bodyPost_end (results_none rfl _ _ _) rfl ?_
      exact ⟨rfl, ⟨lab5, _, _, _, hR5⟩, HB5.out, hK5⟩
theorem put_calls (os : List Opn) : PutC os := by
  induction os with
  | nil => exact put_nil'
  | cons o os ih =>
    intro w base b lab vr vt vo vL row tops x N h hL hb hN h1 h2 h3
    obtain ⟨lab', h', hL', h5⟩ := lab4 h hL
    have h3o := h3 o (List.mem_cons_self ..)
    simp only [List.length_cons] at hN
    refine Calls.mono (R := RetRd lab' base b (put (o :: os) row tops x) w) ?_ (fun e w' ⟨h1, h2, h3, h4⟩ => ⟨h1, h2, h3, fun k hk hl => h4 k hk (h5 k hl)⟩)
    refine put_cons_aux o os w base b lab' vr vt vo vL row tops x h' hL' hb (by omega) (by omega) (by omega) _ ⟨fun hq W lab vr vt vo hR hbW => ?_, fun hq => ?_⟩
    · have e : put (o :: os) row tops x = put os (row ++ [x]) tops ⟨4, o.p, 0, noS, o.l ++ [(row.length : Int)]⟩ := by rw [put, if_pos hq]
      rw [e]
      exact close_calls os ih W base b lab vr vt vo (row ++ [x]) tops ⟨o.p, o.q, o.l ++ [(row.length : Int)]⟩ (N + 1) hR hbW (by omega) (by simp; omega) (by omega) (fun o' h' => Nat.le_trans (h3 o' (List.mem_cons_of_mem _ h')) (by omega))
    · rw [put, if_neg hq]
end Go.Proofs.YthempkdgmobocaaDoorE
end
section
/- The walk of read.reader: token. -/
namespace Go.Proofs.YthempkdgmobocaaDoorE
open Go Go.RowKit Go.Proofs.YthempkdgmobocaaDoorEd Go.Proofs.YthempkdgmobocaaDoor.L Go.Proofs.YthempkdgmobocaaDoor.N Go.Proofs.YthempkdgmobocaaDoorM
open Go.Proofs.YthempkdgmobocaaDoorW.PrintWords Go.Proofs.YthempkdgmobocaaDoorW.PrintLast Go.Proofs.YthempkdgmobocaaDoorW.PrintMore
attribute [local go_sem ↓] Go.wp_at_zero Go.wp_at_succ

def RetAny (w : World) (e : Ending) (w' : World) : Prop := ∃ pv, e = .returned (.pointer pv) ∧ w'.heap = w.heap ∧ Below w.heap.size w w'
theorem last_any {w : World} {base b : Nat} {lab : Nat → Nat} {vr vt vo : Value} {s : St} (h : Rd w base b lab vr vt vo s) (hn : s.ops.length ≤ 1000000) : Calls Tryd.prog 37 #[.pointer (some ⟨b, 0, none⟩)] w (RetAny w) := by
  obtain ⟨row, tops, ops⟩ := s
  cases ops with
  | nil =>
    obtain ⟨Ao, co, rfl⟩ : ∃ A c, vo = .slice A 0 c := by
      obtain ⟨ps, _, _, ho⟩ := h.ptr
      exact own_slice ho
    exact (last_none w b _ _ Ao co h.here).mono fun e w' ⟨he, hw⟩ => by rw [← hw]; exact ⟨_, he, rfl, Below.refl _ _⟩
  | cons o os =>
    obtain ⟨p, g, c, Al, cl, rfl, hcn, hE, hcp, hh, hbp, -⟩ := h.top
    exact (last_p w b _ _ g os.length c p h.here hcp (by simp at hn; omega)).mono fun e w' ⟨he, hw, hB⟩ => ⟨_, he, hw, hB⟩
def RetTk (lab : Nat → Nat) (base b : Nat) (r : St × Int) (w : World) (e : Ending) (w' : World) : Prop := e = .returned (.int .i64 r.2) ∧ RdE w' base b r.1 ∧ Below base w w' ∧ Keep lab w w'
/-- the row's, the tops' and the lists' sizes. -/
structure Small (N : Nat) (s : St) : Prop where
  row : s.row.length ≤ N
  tops : s.tops.length ≤ N
  ops : ∀ o ∈ s.ops, o.l.length ≤ N
theorem put_at {w W : World} {base b : Nat} {lab : Nat → Nat} {vr vt vo : Value} {s : St} {N : Nat} (h : Rd w base b lab vr vt vo s) (hs : Small N s) (hN : N + s.ops.length ≤ 1000000) (hb : base ≤ w.heap.size) (hh : W.heap = w.heap) (x : S46) (hx : x.f4 = []) :
    Calls Tryd.prog 48 #[.pointer (some ⟨b, 0, none⟩), .agg #[.int .u8 x.f0, .int .i64 x.f1, .int .i64 x.f2, .string x.f3, .slice none 0 0]] W (RetRd lab base b (s.add x) W) :=
  put_calls s.ops W base b lab vr vt vo (.slice none 0 0) s.row s.tops x N (h.same hh) (by rw [hx]; exact Kd.R_nil _ _ _ _ _) (by rw [hh]; exact hb) hN hs.row hs.tops hs.ops
theorem keep_box (lab : Nat → Nat) (w : World) {W : World} (o : Obj) (hW : W.heap = w.heap.push o) : Keep lab w W ∧ w.heap.size ≤ W.heap.size :=
  ⟨fun k hk _ => by rw [hW, push_old _ _ _ hk], by rw [hW]; simp⟩
theorem box_cells {w W : World} {cs : Array Value} {t : Nat} (hW : W.heap = w.heap.push (.cells cs t)) (j : Nat) (v : Value) (hv : cs[j]? = some v) : W.cell? ⟨w.heap.size, j, none⟩ = some v :=
  cell_blk (t := t) (cs := cs) (by rw [hW]; simp) j v hv

set_option maxHeartbeats 2000000 in
set_option maxRecDepth 100000 in
theorem tok_leaf (w : World) (base b : Nat) (lab : Nat → Nat) (vr vt vo : Value) (s : St) (k p n : Int) (nm : ByteArray) (N : Nat) (h : Rd w base b lab vr vt vo s) (hs : Small N s) (hN : N + s.ops.length ≤ 1000000) (hb : base ≤ w.heap.size) (hk : k = 4 ∨ k = 5 ∨ k = 6) :
    Calls Tryd.prog 36 #[.pointer (some ⟨b, 0, none⟩), .agg #[.int .u8 k, .int .i64 p, .int .i64 n, .string nm]] w (RetTk lab base b (tok s ⟨k, p, n, nm⟩) w) := by
  have hr := h.relab (w1 := w.alloc (.cells #[.int .u8 k, .int .i64 p, .int .i64 n, .string nm] 30)) (lab' := lab) (fun j hj => push_old w _ j hj) (fun _ _ => rfl)
  have hb2 : base ≤ (w.alloc (.cells #[.int .u8 k, .int .i64 p, .int .i64 n, .string nm] 30)).heap.size := by simp; omega
  have hl := Lib.hid (last_any hr (by omega))
  have HB1 := Aside0.mk ((below_alloc (Below.refl w.heap.size w) (.cells #[.int .u8 k, .int .i64 p, .int .i64 n, .string nm] 30)).mono hb)
  have HR := Aside0.mk hr
  have hs := Aside0.mk hs
  clear h hr
  rcases hk with rfl | rfl | rfl
  · go_enter Tryd.func36, Tryd.ntmps36
    go_wp2_with (first | (go_at_call 37; refine hl.out.mono ?_; rintro e w3 ⟨pv, rfl, hh3, hB3⟩; have b0 := box_cells hh3 0 _ rfl; have b1 := box_cells hh3 1 _ rfl; have b2 := box_cells hh3 2 _ rfl; have HB3 := Aside0.mk (hB3.mono hb2); have HH3 := Aside0.mk hh3; clear hh3 hB3 hl) | (go_at_call 48; refine (put_at HR.out hs.out hN hb2 HH3.out ⟨1, p, n, ⟨#[]⟩, []⟩ rfl).mono ?_; rintro e w4 ⟨rfl, hE, hB4, hK4⟩; have HE := Aside0.mk hE; have HB4 := Aside0.mk hB4; have HK4 := Aside0.mk hK4; clear hE hB4 hK4))
    go_ret
    exact ⟨rfl, HE.out, (HB1.out.trans HB3.out).trans HB4.out, (keep_box lab w _ HH3.out).1.trans (fun _ _ h => h) (keep_box lab w _ HH3.out).2 HK4.out⟩
  · go_enter Tryd.func36, Tryd.ntmps36
    go_wp2_with (first | (go_at_call 37; refine hl.out.mono ?_; rintro e w3 ⟨pv, rfl, hh3, hB3⟩; have b0 := box_cells hh3 0 _ rfl; have b1 := box_cells hh3 1 _ rfl; have b2 := box_cells hh3 2 _ rfl; have HB3 := Aside0.mk (hB3.mono hb2); have HH3 := Aside0.mk hh3; clear hh3 hB3 hl) | (go_at_call 48; refine (put_at HR.out hs.out hN hb2 HH3.out ⟨2, p, n, ⟨#[]⟩, []⟩ rfl).mono ?_; rintro e w4 ⟨rfl, hE, hB4, hK4⟩; have HE := Aside0.mk hE; have HB4 := Aside0.mk hB4; have HK4 := Aside0.mk hK4; clear hE hB4 hK4))
    go_ret
    exact ⟨rfl, HE.out, (HB1.out.trans HB3.out).trans HB4.out, (keep_box lab w _ HH3.out).1.trans (fun _ _ h => h) (keep_box lab w _ HH3.out).2 HK4.out⟩
  · go_enter Tryd.func36, Tryd.ntmps36
    go_wp2_with (first | (go_at_call 37; refine hl.out.mono ?_; rintro e w3 ⟨pv, rfl, hh3, hB3⟩; have b0 := box_cells hh3 0 _ rfl; have b1 := box_cells hh3 1 _ rfl; have b3 := box_cells hh3 3 _ rfl; have HB3 := Aside0.mk (hB3.mono hb2); have HH3 := Aside0.mk hh3; clear hh3 hB3 hl) | (go_at_call 48; refine (put_at HR.out hs.out hN hb2 HH3.out ⟨3, p, 0, nm, []⟩ rfl).mono ?_; rintro e w4 ⟨rfl, hE, hB4, hK4⟩; have HE := Aside0.mk hE; have HB4 := Aside0.mk hB4; have HK4 := Aside0.mk hK4; clear hE hB4 hK4))
    go_ret
    exact ⟨rfl, HE.out, (HB1.out.trans HB3.out).trans HB4.out, (keep_box lab w _ HH3.out).1.trans (fun _ _ h => h) (keep_box lab w _ HH3.out).2 HK4.out⟩

set_option maxHeartbeats 2000000 in
set_option maxRecDepth 100000 in
theorem tok_close (w : World) (base b : Nat) (lab : Nat → Nat) (vr vt vo : Value) (s : St) (p n : Int) (nm : ByteArray) (N : Nat) (h : Rd w base b lab vr vt vo s) (hs : Small N s) (hN : N + s.ops.length ≤ 1000000) (hb : base ≤ w.heap.size) :
    Calls Tryd.prog 36 #[.pointer (some ⟨b, 0, none⟩), .agg #[.int .u8 2, .int .i64 p, .int .i64 n, .string nm]] w (RetTk lab base b (tok s ⟨2, p, n, nm⟩) w) := by
  have hr := h.relab (w1 := w.alloc (.cells #[.int .u8 2, .int .i64 p, .int .i64 n, .string nm] 30)) (lab' := lab) (fun j hj => push_old w _ j hj) (fun _ _ => rfl)
  have hb2 : base ≤ (w.alloc (.cells #[.int .u8 2, .int .i64 p, .int .i64 n, .string nm] 30)).heap.size := by simp; omega
  have HB1 := Aside0.mk ((below_alloc (Below.refl w.heap.size w) (.cells #[.int .u8 2, .int .i64 p, .int .i64 n, .string nm] 30)).mono hb)
  obtain ⟨row, tops, ops⟩ := s
  cases ops with
  | nil =>
    obtain ⟨Ao, co, rfl⟩ : ∃ A c, vo = .slice A 0 c := by
      obtain ⟨ps, _, _, ho⟩ := h.ptr
      exact own_slice ho
    have hl := Lib.hid (last_none _ b _ _ Ao co hr.here)
    have HR := Aside0.mk hr
    clear h hr
    have e : tok ⟨row, tops, []⟩ ⟨2, p, n, nm⟩ = (⟨row, tops, []⟩, 61) := rfl
    rw [e]
    clear e
    go_enter Tryd.func36, Tryd.ntmps36
    go_wp2_with (go_at_call 37; refine hl.out.mono ?_; rintro e w3 ⟨rfl, rfl⟩)
    go_ret
    exact ⟨rfl, ⟨_, _, _, _, HR.out⟩, HB1.out, (keep_box lab w _ rfl).1⟩
  | cons o os =>
    obtain ⟨q, g, c, Al, cl, rfl, hcn, hE, hcp, hh, hbp, -⟩ := hr.top
    have hl := Lib.hid (last_p _ b _ _ g os.length c q hr.here hcp (by simp at hN; omega))
    have HR := Aside0.mk hr
    have HH := Aside0.mk hh
    have hs := Aside0.mk hs
    clear h hr hE hh hcp hbp
    cases hq : o.q with
    | true =>
      have e : tok ⟨row, tops, o :: os⟩ ⟨2, p, n, nm⟩ = (⟨row, tops, o :: os⟩, 63) := by simp [YthempkdgmobocaaDoorM.tok, hq]
      rw [e]
      rw [hq] at HH
      clear e hq
      go_enter Tryd.func36, Tryd.ntmps36
      go_wp2_with (go_at_call 37; refine hl.out.mono ?_; rintro e w3 ⟨rfl, hh3, hB3⟩; have b0 := box_cells hh3 0 _ rfl; have q1 : w3.cell? ⟨q, 1, none⟩ = some (.bool true) := cell_blk (hh3 ▸ HH.out) 1 _ rfl; have HB3 := Aside0.mk (hB3.mono hb2); have HH3 := Aside0.mk hh3; clear hh3 hB3 hl)
      go_ret
      exact ⟨rfl, ⟨_, _, _, _, HR.out.same HH3.out⟩, HB1.out.trans HB3.out, (keep_box lab w _ HH3.out).1⟩
    | false =>
      have e : tok ⟨row, tops, o :: os⟩ ⟨2, p, n, nm⟩ = (put os row tops ⟨4, o.p, 0, noS, o.l⟩, 0) := by simp [YthempkdgmobocaaDoorM.tok, hq]
      rw [e]
      rw [hq] at HH
      clear e hq
      go_enter Tryd.func36, Tryd.ntmps36
      go_wp2_with (first | (go_at_call 37; refine hl.out.mono ?_; rintro e w3 ⟨rfl, hh3, hB3⟩; have b0 := box_cells hh3 0 _ rfl; have q1 : w3.cell? ⟨q, 1, none⟩ = some (.bool false) := cell_blk (hh3 ▸ HH.out) 1 _ rfl; have HB3 := Aside0.mk (hB3.mono hb2); have HH3 := Aside0.mk hh3; clear hh3 hB3 hl) | (go_at_call 49; refine (close_calls os (put_calls os) w3 base b lab vr vt _ row tops o N (HR.out.same HH3.out) (by rw [HH3.out]; exact hb2) (by simp at hN; omega) hs.out.row hs.out.tops (fun o' h' => hs.out.ops o' (List.mem_cons_of_mem _ h'))).mono ?_; rintro e w4 ⟨rfl, hE, hB4, hK4⟩; have HE := Aside0.mk hE; have HB4 := Aside0.mk hB4; have HK4 := Aside0.mk hK4; clear hE hB4 hK4))
      go_ret
      exact ⟨rfl, HE.out, (HB1.out.trans HB3.out).trans HB4.out, (keep_box lab w _ HH3.out).1.trans (fun _ _ h => h) (keep_box lab w _ HH3.out).2 HK4.out⟩

theorem info65 : (Tryd.prog.info? 65).map (fun i => (i.zero, i.size, i.bytes)) = some (some (.pointer none), 1, 8) := by kernel_rfl
def kptr : Kd Nat := Kd.scalar (fun p => .pointer (some ⟨p, 0, none⟩)) (fun _ => rfl)
theorem ptrs_encs (ps : List Nat) : ptrs ps = encs (fun p : Nat => Value.pointer (some ⟨p, 0, none⟩)) ps.reverse := rfl
/-- labels when a list is opened: the new list's block, and the rest that is new. -/
def pushLab (lab : Nat → Nat) (n c : Nat) : Nat → Nat := fun k => if k = n then c else if n ≤ k then 3 else lab k
theorem pushLab_old (lab : Nat → Nat) (n c k : Nat) (h : k < n) : pushLab lab n c k = lab k := by unfold pushLab; rw [if_neg (by omega), if_neg (by omega)]
theorem pushLab_at (lab : Nat → Nat) (n c : Nat) : pushLab lab n c n = c := by unfold pushLab; rw [if_pos rfl]
theorem pushLab_new (lab : Nat → Nat) (n c k : Nat) (h : n < k) : pushLab lab n c k = 3 := by unfold pushLab; rw [if_neg (by omega), if_pos (by omega)]
theorem push_ho {w W : World} {base c n : Nat} {lab : Nat → Nat} {vo : Value} {ps : List Nat} {o : Obj} (hl : ∀ k, vo.ownBlock = some k → lab k = 3) (ho : w.ownsRow base 65 1 vo n (ptrs ps)) (hn : ps.length = n) (hW : W.heap = w.heap.push o) :
    kptr.R 65 W base (fun k => pushLab lab w.heap.size c k = 3) vo ps.reverse :=
  Kd.R_of_own (by
    rw [List.length_reverse, hn, ← ptrs_encs]
    exact own_move ho (fun k hk => by rw [hW, push_old _ _ _ (own_lt ho k hk)])) (fun k hk => (pushLab_old _ _ _ _ (own_lt ho k hk)).trans (hl k hk))
theorem push_mk {w W w1 : World} {base b : Nat} {lab : Nat → Nat} {vr vt vo v1 : Value} {s : St} {o : Opn} {ps : List Nat} (h : Rd w base b lab vr vt vo s) (hol : o.l = []) (hb : base ≤ w.heap.size)
    (hl : ∀ k, vo.ownBlock = some k → lab k = 3) (ho : w.ownsRow base 65 1 vo s.ops.length (ptrs ps)) (he : Each w base lab ps s.ops) (hW : W.heap = w.heap.push (.cells #[.int .i64 o.p, .bool o.q, .slice none 0 0] 68))
    (hg : W.grownBy w1 vo.ownBlock) (hr : kptr.R 65 w1 base (fun k => pushLab lab w.heap.size (6 + 2 * s.ops.length) k = 3) v1 (ps.reverse ++ [w.heap.size])) :
    ∃ lab', Rd (w1.setCell ⟨b, 2, none⟩ v1) base b lab' vr vt v1 ⟨s.row, s.tops, o :: s.ops⟩ ∧ Keep lab w (w1.setCell ⟨b, 2, none⟩ v1) ∧ ∀ k, k < w.heap.size → lab k = 5 → lab' k = 5 := by
  have hz : W.heap.size = w.heap.size + 1 := by rw [hW]; simp
  have hne : ∀ k, w.heap.size ≤ k → some k ≠ vo.ownBlock := fun k hk e => by have := own_lt ho k e.symm; omega
  have hC : Chg w w1 lab (pushLab lab w.heap.size (6 + 2 * s.ops.length)) 3 := ⟨fun k hk hc => (hg.block k (by omega) (fun e => hc (hl k e.symm))).trans (by rw [hW, push_old _ _ _ hk]), fun k hk => pushLab_old _ _ _ _ hk⟩
  refine ⟨_, h.pushed (lab' := pushLab lab w.heap.size (6 + 2 * s.ops.length)) (p := w.heap.size) hC hb (pushLab_at _ _ _) ?_ hol hr.1 ⟨ps, he, ?_⟩, Keep.set hC (by decide) (lt_of_heap h.here) (by have := h.lb; omega) _ _, fun k hk h5 => (pushLab_old _ _ _ _ hk).trans h5⟩
  · exact (hg.block _ (by omega) (hne _ (Nat.le_refl _))).trans (by rw [hW]; simp)
  · have := Kd.own_of_R hr
    rw [List.length_append, List.length_reverse, he.length, List.length_singleton] at this
    rw [ptrs_encs]
    simpa [encs] using this

structure PtrAt (w : World) (base b : Nat) (lab : Nat → Nat) (vr vt vo : Value) (s : St) (ps : List Nat) : Prop where
  rd : Rd w base b lab vr vt vo s
  each : Each w base lab ps s.ops
  lab : ∀ k, vo.ownBlock = some k → lab k = 3
  own : w.ownsRow base 65 1 vo s.ops.length (ptrs ps)
theorem PtrAt.same {w w1 : World} {base b : Nat} {lab : Nat → Nat} {vr vt vo : Value} {s : St} {ps : List Nat} (h : PtrAt w base b lab vr vt vo s ps) (hh : w1.heap = w.heap) : PtrAt w1 base b lab vr vt vo s ps :=
  ⟨h.rd.same hh, h.each.step (fun k _ _ _ => ⟨by rw [hh], rfl⟩), h.lab, own_move h.own (fun k _ => by rw [hh])⟩

theorem ptr_ne3 {w : World} {base b : Nat} {lab : Nat → Nat} {vr vt vo : Value} {s : St} {ps : List Nat} (h : PtrAt w base b lab vr vt vo s ps) : some b ≠ vo.ownBlock := fun e => by
  have h1 := h.lab b e.symm
  have h2 := h.rd.lb
  omega

set_option maxHeartbeats 4000000 in
set_option maxRecDepth 100000 in
theorem tok_open (w : World) (base b : Nat) (lab : Nat → Nat) (vr vt vo : Value) (s : St) (k p n : Int) (nm : ByteArray) (N : Nat) (h : Rd w base b lab vr vt vo s) (hs : Small N s) (hN : N + s.ops.length + 1 ≤ 1000000) (hb : base ≤ w.heap.size) (h2 : k ≠ 2) (h3 : k ≠ 3) (h4 : k ≠ 4) (h5 : k ≠ 5) (h6 : k ≠ 6) :
    Calls Tryd.prog 36 #[.pointer (some ⟨b, 0, none⟩), .agg #[.int .u8 k, .int .i64 p, .int .i64 n, .string nm]] w (RetTk lab base b (tok s ⟨k, p, n, nm⟩) w) := by
  have hr := h.relab (w1 := w.alloc (.cells #[.int .u8 k, .int .i64 p, .int .i64 n, .string nm] 30)) (lab' := lab) (fun j hj => push_old w _ j hj) (fun _ _ => rfl)
  have hb2 : base ≤ (w.alloc (.cells #[.int .u8 k, .int .i64 p, .int .i64 n, .string nm] 30)).heap.size := by simp; omega
  have hl := Lib.hid (last_any hr (by omega))
  have HB1 := Aside0.mk ((below_alloc (Below.refl w.heap.size w) (.cells #[.int .u8 k, .int .i64 p, .int .i64 n, .string nm] 30)).mono hb)
  obtain ⟨ps, he, hlab, ho⟩ := hr.ptr
  obtain ⟨Ao, co, rfl⟩ := own_slice ho
  have b2 : decide (k = 2) = false := decide_eq_false h2
  have b3 : decide (k = 3) = false := decide_eq_false h3
  have b4 : decide (k = 4) = false := decide_eq_false h4
  have b5 : decide (k = 5) = false := decide_eq_false h5
  have b6 : decide (k = 6) = false := decide_eq_false h6
  have c2 : (k == 2) = false := by simpa using h2
  have c3 : (k == 3) = false := by simpa using h3
  have c4 : (k == 4) = false := by simpa using h4
  have c5 : (k == 5) = false := by simpa using h5
  have c6 : (k == 6) = false := by simpa using h6
  have HR := Aside0.mk hr
  have hs := Aside0.mk hs
  by_cases h50 : 50 ≤ s.ops.length
  · have e : tok s ⟨k, p, n, nm⟩ = (s, 62) := by unfold YthempkdgmobocaaDoorM.tok; rw [if_neg h4, if_neg h5, if_neg h6, if_neg h2, if_pos h50]
    rw [e]
    have d50 : decide ((50 : Int) ≤ (s.ops.length : Int)) = true := decide_eq_true (by omega)
    clear e h hr he ho hlab
    go_enter Tryd.func36, Tryd.ntmps36
    go_wp2_with (go_at_call 37; refine hl.out.mono ?_; rintro e w3 ⟨pv, rfl, hh3, hB3⟩; have b0 := box_cells hh3 0 _ rfl; have r2 : w3.cell? ⟨b, 2, none⟩ = some (.slice Ao s.ops.length co) := cell_blk ((HR.out.same hh3).here) 2 _ rfl; have HB3 := Aside0.mk (hB3.mono hb2); have HH3 := Aside0.mk hh3; clear hh3 hB3 hl)
    go_ret
    exact ⟨rfl, ⟨_, _, _, _, HR.out.same HH3.out⟩, HB1.out.trans HB3.out, (keep_box lab w _ HH3.out).1⟩
  · have e : tok s ⟨k, p, n, nm⟩ = (⟨s.row, s.tops, ⟨p, false, []⟩ :: s.ops⟩, 0) := by unfold YthempkdgmobocaaDoorM.tok; rw [if_neg h4, if_neg h5, if_neg h6, if_neg h2, if_neg h50, if_neg h3]
    rw [e]
    have d50 : decide ((50 : Int) ≤ (s.ops.length : Int)) = false := decide_eq_false (by omega)
    have hbl := lt_of_heap hr.here
    have hps : ps.length ≤ 50 := by rw [he.length]; omega
    have hpe := Aside0.mk he.length
    have HQ := Aside0.mk (PtrAt.mk hr he hlab ho)
    clear e h hr he ho hlab HR
    go_enter Tryd.func36, Tryd.ntmps36
    go_wp2_with (go_at_call 37; refine hl.out.mono ?_; rintro e w3 ⟨pv, rfl, hh3, hB3⟩; have b0 := box_cells hh3 0 _ rfl; have b1 := box_cells hh3 1 _ rfl; have r2 : w3.cell? ⟨b, 2, none⟩ = some (.slice Ao s.ops.length co) := cell_blk ((HQ.out.same hh3).rd.here) 2 _ rfl; have f2 := free_blk ((HQ.out.same hh3).rd.here) 2; have HB3 := Aside0.mk (HB1.out.trans (hB3.mono hb2)); have HQ3 := Aside0.mk (HQ.out.same hh3); have hb3 : base ≤ w3.heap.size := (by rw [hh3]; exact hb2); have HK3 := Aside0.mk (keep_box lab w _ hh3); clear hh3 hB3 hl HQ HB1)
    have hbl := lt_of_heap HQ3.out.rd.here
    have HN := Aside0.mk (ptr_ne3 HQ3.out)
    clear hb2
    go_region_law
      ((refine append_drew kptr (w0 := w) base (by rfl) (.tmp 24) (.tmp 30) 61 65 (.pointer none) 8 (by rfl) Tryd.underlying61 info65 rfl (by decide) (by decide) (.slice Ao s.ops.length co) ps.reverse w3.heap.size [.pointer (some ⟨w3.heap.size, 0, none⟩)] (fun k => pushLab lab w3.heap.size (6 + 2 * s.ops.length) k = 3) (fun _ => False) (by rfl) (by rfl) (by simp) (by rfl) (fun _ hk => hk.elim) (fun k hk => pushLab_new _ _ _ _ (by simp at hk; omega)) (by exact push_ho HQ3.out.lab HQ3.out.own hpe.out rfl) (by exact (HB3.out.alloc hb3 _).drew) (by simp; omega) (by simp; omega) ?_; intro v4 w4 ho4 hB4 hg4 hat4; obtain ⟨A4, d4, hv4⟩ := Kd.R_slice ho4; rw [List.length_append, List.length_reverse, hpe.out, List.length_singleton] at hv4; subst hv4; have HO4 := Aside0.mk ho4; have HB4 := Aside0.mk hB4; have HG4 := Aside0.mk hg4; have g2 := (World.frozen?_of_block (a := ⟨b, 2, none⟩) (hg4.block b (by simp; omega) HN.out)).trans ((World.frozen?_of_block (a := ⟨b, 2, none⟩) (by exact push_old _ _ _ hbl)).trans f2); have s2 := hg4.cell (a := ⟨b, 2, none⟩) ((World.cell?_of_block (a := ⟨b, 2, none⟩) (by exact push_old _ _ _ hbl)).trans r2) HN.out; have hz4 : b < w4.heap.size := (by have := hg4.size; simp at this; omega); clear ho4 hB4 hg4 hat4))
    all_goals
      have HR5 := Aside0.mk (push_mk (o := ⟨p, false, []⟩) HQ3.out.rd rfl hb3 HQ3.out.lab HQ3.out.own HQ3.out.each rfl HG4.out HO4.out)
      have HB5 := Aside0.mk (HB4.out.setCell (p := ⟨b, 2, none⟩) HQ3.out.rd.bb (.slice A4 (s.ops.length + 1) d4))
      clear HO4 HB4 HG4 HQ3 HB3
      go_wp2
      go_ret
      exact ⟨rfl, by obtain ⟨lab', hr, _⟩ := HR5.out; exact ⟨lab', _, _, _, hr⟩, HB5.out, by obtain ⟨lab', _, hK, _⟩ := HR5.out; exact HK3.out.1.trans (fun _ _ h => h) HK3.out.2 hK⟩
set_option maxHeartbeats 4000000 in
set_option maxRecDepth 100000 in
theorem tok_quote (w : World) (base b : Nat) (lab : Nat → Nat) (vr vt vo : Value) (s : St) (p n : Int) (nm : ByteArray) (N : Nat) (h : Rd w base b lab vr vt vo s) (hs : Small N s) (hN : N + s.ops.length + 1 ≤ 1000000) (hb : base ≤ w.heap.size) :
    Calls Tryd.prog 36 #[.pointer (some ⟨b, 0, none⟩), .agg #[.int .u8 3, .int .i64 p, .int .i64 n, .string nm]] w (RetTk lab base b (tok s ⟨3, p, n, nm⟩) w) := by
  have hr := h.relab (w1 := w.alloc (.cells #[.int .u8 3, .int .i64 p, .int .i64 n, .string nm] 30)) (lab' := lab) (fun j hj => push_old w _ j hj) (fun _ _ => rfl)
  have hb2 : base ≤ (w.alloc (.cells #[.int .u8 3, .int .i64 p, .int .i64 n, .string nm] 30)).heap.size := by simp; omega
  have hl := Lib.hid (last_any hr (by omega))
  have HB1 := Aside0.mk ((below_alloc (Below.refl w.heap.size w) (.cells #[.int .u8 3, .int .i64 p, .int .i64 n, .string nm] 30)).mono hb)
  obtain ⟨ps, he, hlab, ho⟩ := hr.ptr
  obtain ⟨Ao, co, rfl⟩ := own_slice ho
  have HN1 := Aside0.mk (show some w.heap.size ≠ (Value.slice Ao s.ops.length co).ownBlock from fun e => by
    obtain ⟨_, _, _, ho'⟩ := h.ptr
    have := own_lt ho' _ e.symm
    omega)
  have hbw := lt_of_heap h.here
  have HB1w : base ≤ w.heap.size := hb
  have HR := Aside0.mk hr
  have hs := Aside0.mk hs
  by_cases h50 : 50 ≤ s.ops.length
  · have e : tok s ⟨3, p, n, nm⟩ = (s, 62) := by simp [YthempkdgmobocaaDoorM.tok, h50]
    rw [e]
    have d50 : decide ((50 : Int) ≤ (s.ops.length : Int)) = true := decide_eq_true (by omega)
    clear e h hr he ho hlab
    go_enter Tryd.func36, Tryd.ntmps36
    go_wp2_with (go_at_call 37; refine hl.out.mono ?_; rintro e w3 ⟨pv, rfl, hh3, hB3⟩; have b0 := box_cells hh3 0 _ rfl; have r2 : w3.cell? ⟨b, 2, none⟩ = some (.slice Ao s.ops.length co) := cell_blk ((HR.out.same hh3).here) 2 _ rfl; have HB3 := Aside0.mk (hB3.mono hb2); have HH3 := Aside0.mk hh3; clear hh3 hB3 hl)
    go_ret
    exact ⟨rfl, ⟨_, _, _, _, HR.out.same HH3.out⟩, HB1.out.trans HB3.out, (keep_box lab w _ HH3.out).1⟩
  · have e : tok s ⟨3, p, n, nm⟩ = (St.add ⟨s.row, s.tops, ⟨p, true, []⟩ :: s.ops⟩ ⟨3, p, 0, quoteS, []⟩, 0) := by simp [YthempkdgmobocaaDoorM.tok, h50]
    rw [e]
    have d50 : decide ((50 : Int) ≤ (s.ops.length : Int)) = false := decide_eq_false (by omega)
    have hbl := lt_of_heap hr.here
    have hps : ps.length ≤ 50 := by rw [he.length]; omega
    have hpe := Aside0.mk he.length
    have HQ := Aside0.mk (PtrAt.mk hr he hlab ho)
    clear e h hr he ho hlab HR
    go_enter Tryd.func36, Tryd.ntmps36
    go_wp2_with (go_at_call 37; refine hl.out.mono ?_; rintro e w3 ⟨pv, rfl, hh3, hB3⟩; have b0 := box_cells hh3 0 _ rfl; have b1 := box_cells hh3 1 _ rfl; have r2 : w3.cell? ⟨b, 2, none⟩ = some (.slice Ao s.ops.length co) := cell_blk ((HQ.out.same hh3).rd.here) 2 _ rfl; have f2 := free_blk ((HQ.out.same hh3).rd.here) 2; have HB3 := Aside0.mk (HB1.out.trans (hB3.mono hb2)); have HQ3 := Aside0.mk (HQ.out.same hh3); have hb3 : base ≤ w3.heap.size := (by rw [hh3]; exact hb2); have HK3 := Aside0.mk (keep_box lab w _ hh3); clear hh3 hB3 hl HQ HB1)
    have hbl := lt_of_heap HQ3.out.rd.here
    have HN := Aside0.mk (ptr_ne3 HQ3.out)
    have hw3 : w.heap.size < w3.heap.size := World.block_lt_of_cell? w3 _ b1
    have hs' := Aside0.mk (show Small N ⟨s.row, s.tops, ⟨p, true, []⟩ :: s.ops⟩ from ⟨hs.out.row, hs.out.tops, fun o ho => by
      rcases List.mem_cons.1 ho with rfl | ho
      · exact Nat.zero_le _
      · exact hs.out.ops o ho⟩)
    clear hb2
    go_region_law
      ((refine append_drew kptr (w0 := w) base (by rfl) (.tmp 24) (.tmp 30) 61 65 (.pointer none) 8 (by rfl) Tryd.underlying61 info65 rfl (by decide) (by decide) (.slice Ao s.ops.length co) ps.reverse w3.heap.size [.pointer (some ⟨w3.heap.size, 0, none⟩)] (fun k => pushLab lab w3.heap.size (6 + 2 * s.ops.length) k = 3) (fun _ => False) (by rfl) (by rfl) (by simp) (by rfl) (fun _ hk => hk.elim) (fun k hk => pushLab_new _ _ _ _ (by simp at hk; omega)) (by exact push_ho HQ3.out.lab HQ3.out.own hpe.out rfl) (by exact (HB3.out.alloc hb3 _).drew) (by simp; omega) (by simp; omega) ?_; intro v4 w4 ho4 hB4 hg4 hat4; obtain ⟨A4, d4, hv4⟩ := Kd.R_slice ho4; rw [List.length_append, List.length_reverse, hpe.out, List.length_singleton] at hv4; subst hv4; have HO4 := Aside0.mk ho4; have HB4 := Aside0.mk hB4; have HG4 := Aside0.mk hg4; have g2 := (World.frozen?_of_block (a := ⟨b, 2, none⟩) (hg4.block b (by simp; omega) HN.out)).trans ((World.frozen?_of_block (a := ⟨b, 2, none⟩) (by exact push_old _ _ _ hbl)).trans f2); have s2 := hg4.cell (a := ⟨b, 2, none⟩) ((World.cell?_of_block (a := ⟨b, 2, none⟩) (by exact push_old _ _ _ hbl)).trans r2) HN.out; have s1 := hg4.cell (a := ⟨w.heap.size, 1, none⟩) ((World.cell?_of_block (a := ⟨w.heap.size, 1, none⟩) (by exact push_old _ _ _ hw3)).trans b1) HN1.out; have hz4 : b < w4.heap.size := (by have := hg4.size; simp at this; omega); clear ho4 hB4 hg4 hat4))
    all_goals
      have HR5 := Aside0.mk (push_mk (o := ⟨p, true, []⟩) HQ3.out.rd rfl hb3 HQ3.out.lab HQ3.out.own HQ3.out.each rfl HG4.out HO4.out)
      have HB5 := Aside0.mk (HB4.out.setCell (p := ⟨b, 2, none⟩) HQ3.out.rd.bb (.slice A4 (s.ops.length + 1) d4))
      clear HO4 HB4 HG4 HQ3 HB3
      have hz5 : base ≤ (w4.setCell ⟨b, 2, none⟩ (.slice A4 (s.ops.length + 1) d4)).heap.size := by
        have := HB5.out.size
        have := HB1w
        omega
      obtain ⟨lab', hr', hK', hl'⟩ := HR5.out
      have hC : Hid (Calls Tryd.prog 48 #[.pointer (some ⟨b, 0, none⟩), .agg #[.int .u8 3, .int .i64 p, .int .i64 0, .string quoteS, .slice none 0 0]] (w4.setCell ⟨b, 2, none⟩ (.slice A4 (s.ops.length + 1) d4)) (RetRd lab' base b (St.add ⟨s.row, s.tops, ⟨p, true, []⟩ :: s.ops⟩ ⟨3, p, 0, quoteS, []⟩) (w4.setCell ⟨b, 2, none⟩ (.slice A4 (s.ops.length + 1) d4)))) :=
        Lib.hid (put_at hr' hs'.out (by simp; omega) hz5 rfl ⟨3, p, 0, quoteS, []⟩ rfl)
      have HK5 := Aside0.mk (HK3.out.1.trans (fun _ _ h => h) HK3.out.2 hK')
      have HL5 := Aside0.mk (fun k hk h5 => hl' k (Nat.lt_of_lt_of_le hk HK3.out.2) h5)
      clear hr' hK' hl'
      clear HR5 hz5
      unfold quoteS at hC
      go_wp2_with (go_at_call 48; refine hC.out.mono ?_; rintro e w6 ⟨rfl, hE, hB6, hK6⟩; have HE := Aside0.mk hE; have HB6 := Aside0.mk hB6; have HK6 := Aside0.mk hK6; clear hE hB6 hC hK6)
      go_ret
      exact ⟨rfl, HE.out, HB5.out.trans HB6.out, HK5.out.trans HL5.out HB5.out.size HK6.out⟩
end Go.Proofs.YthempkdgmobocaaDoorE
end
section
/- The walk of read.Read. -/
namespace Go.Proofs.YthempkdgmobocaaDoorE
open Go Go.RowKit Go.Proofs.YthempkdgmobocaaDoorEd Go.Proofs.YthempkdgmobocaaDoor.L Go.Proofs.YthempkdgmobocaaDoor.N Go.Proofs.YthempkdgmobocaaDoorM Go.Proofs.YthempkdgmobocaaDoorX
open Go.Proofs.YthempkdgmobocaaDoorW.PrintWords Go.Proofs.YthempkdgmobocaaDoorW.PrintLast Go.Proofs.YthempkdgmobocaaDoorW.PrintMore
attribute [local go_sem ↓] Go.wp_at_zero Go.wp_at_succ

theorem tok_calls (w : World) (base b : Nat) (lab : Nat → Nat) (vr vt vo : Value) (s : St) (t : S30) (N : Nat) (h : Rd w base b lab vr vt vo s) (hs : Small N s) (hN : N + s.ops.length + 1 ≤ 1000000) (hb : base ≤ w.heap.size) :
    Calls Tryd.prog 36 #[.pointer (some ⟨b, 0, none⟩), .agg #[.int .u8 t.f0, .int .i64 t.f1, .int .i64 t.f2, .string t.f3]] w (RetTk lab base b (tok s t) w) := by
  obtain ⟨k, p, n, nm⟩ := t
  dsimp only
  by_cases h4 : k = 4
  · exact tok_leaf w base b lab vr vt vo s k p n nm N h hs (by omega) hb (.inl h4)
  by_cases h5 : k = 5
  · exact tok_leaf w base b lab vr vt vo s k p n nm N h hs (by omega) hb (.inr (.inl h5))
  by_cases h6 : k = 6
  · exact tok_leaf w base b lab vr vt vo s k p n nm N h hs (by omega) hb (.inr (.inr h6))
  by_cases h2 : k = 2
  · subst h2; exact tok_close w base b lab vr vt vo s p n nm N h hs (by omega) hb
  by_cases h3 : k = 3
  · subst h3; exact tok_quote w base b lab vr vt vo s p n nm N h hs hN hb
  · exact tok_open w base b lab vr vt vo s k p n nm N h hs hN hb h2 h3 h4 h5 h6
theorem put_small (ops : List Opn) : ∀ (row : List S46) (tops : List Int) (x : S46) (N : Nat), row.length ≤ N → tops.length ≤ N → (∀ o ∈ ops, o.l.length ≤ N) → Small (N + ops.length + 1) (put ops row tops x) ∧ (put ops row tops x).ops.length ≤ ops.length := by
  induction ops with
  | nil => intro row tops x N h1 h2 h3; exact ⟨⟨by simp [put]; omega, by simp [put]; omega, fun o h => by simp [put] at h⟩, by simp [put]⟩
  | cons o os ih =>
    intro row tops x N h1 h2 h3
    simp only [put]
    split
    · have := ih (row ++ [x]) tops ⟨4, o.p, 0, noS, o.l ++ [(row.length : Int)]⟩ (N + 1) (by simp; omega) (by omega) (fun o' h' => by have := h3 o' (List.mem_cons_of_mem _ h'); omega)
      refine ⟨⟨by have := this.1.row; simp; omega, by have := this.1.tops; simp; omega, fun o' h' => by have := this.1.ops o' h'; simp; omega⟩, by have := this.2; simp; omega⟩
    · refine ⟨⟨by simp; omega, by simp; omega, fun o' h' => ?_⟩, by simp⟩
      rcases List.mem_cons.1 h' with rfl | h'
      · have := h3 o (List.mem_cons_self ..); simp; omega
      · have := h3 o' (List.mem_cons_of_mem _ h'); simp; omega
theorem tok_small (s : St) (t : S30) (N : Nat) (hs : Small N s) (ho : s.ops.length ≤ 50) : Small (N + 60) (tok s t).1 ∧ (tok s t).1.ops.length ≤ 50 := by
  have up : ∀ {M : Nat} {s' : St}, Small M s' → M ≤ N + 60 → Small (N + 60) s' := fun h hm => ⟨Nat.le_trans h.row hm, Nat.le_trans h.tops hm, fun o' h' => Nat.le_trans (h.ops o' h') hm⟩
  have leaf : ∀ x, Small (N + 60) (s.add x) ∧ (s.add x).ops.length ≤ 50 := fun x => by
    have := put_small s.ops s.row s.tops x N hs.row hs.tops hs.ops
    exact ⟨up this.1 (by omega), Nat.le_trans this.2 ho⟩
  unfold YthempkdgmobocaaDoorM.tok
  split
  · exact leaf _
  split
  · exact leaf _
  split
  · exact leaf _
  split
  · cases h : s.ops with
    | nil => exact ⟨up hs (by omega), by dsimp only; omega⟩
    | cons o os =>
      have h' := hs.ops
      rw [h] at h' ho
      dsimp only
      split
      · exact ⟨up hs (by omega), by rw [h]; exact ho⟩
      · have := put_small os s.row s.tops ⟨4, o.p, 0, noS, o.l⟩ N hs.row hs.tops (fun o' h2 => h' o' (List.mem_cons_of_mem _ h2))
        simp at ho
        exact ⟨up this.1 (by omega), by have := this.2; dsimp only; omega⟩
  split
  · exact ⟨up hs (by omega), ho⟩
  split
  · have hq : ∀ o ∈ (⟨t.f1, true, []⟩ : Opn) :: s.ops, o.l.length ≤ N := fun o' h' => by
      rcases List.mem_cons.1 h' with rfl | h'
      · exact Nat.zero_le _
      · exact hs.ops o' h'
    have := put_small (⟨t.f1, true, []⟩ :: s.ops) s.row s.tops ⟨3, t.f1, 0, quoteS, []⟩ N hs.row hs.tops hq
    refine ⟨up this.1 (by simp; omega), ?_⟩
    have := this.2
    simp at this
    show (put (⟨t.f1, true, []⟩ :: s.ops) s.row s.tops ⟨3, t.f1, 0, quoteS, []⟩).ops.length ≤ 50
    omega
  · refine ⟨⟨by have := hs.row; dsimp only; omega, by have := hs.tops; dsimp only; omega, fun o' h' => ?_⟩, by simp; omega⟩
    rcases List.mem_cons.1 h' with rfl | h'
    · exact Nat.zero_le _
    · have := hs.ops o' h'; omega
def RetRead (r : List S46 × List Int × Int × Int) (w : World) (e : Ending) (w' : World) : Prop :=
  ∃ v0 v1 : Value, e = .returned (.tuple #[v0, v1, .int .i64 r.2.2.1, .int .i64 r.2.2.2]) ∧ k46.R 46 w' w.heap.size (fun k => some k ≠ v1.ownBlock) v0 r.1 ∧ (Kd.int .i64).R 3 w' w.heap.size (fun _ => True) v1 r.2.1 ∧ Below w.heap.size w w'
theorem ret_none (p e0 : Int) (w w' : World) (h : Below w.heap.size w w') : RetRead ([], [], p, e0) w (.returned (.tuple #[.slice none 0 0, .slice none 0 0, .int .i64 p, .int .i64 e0])) w' :=
  ⟨_, _, rfl, Kd.R_nil _ _ _ _ _, Kd.R_nil _ _ _ _ _, h⟩
def readR (x : ByteArray) : List S46 × List Int × Int × Int :=
  if (lexR x).2.2 = 0 then readT (lexR x).1 else ([], [], (lexR x).2.1, (lexR x).2.2)

set_option maxHeartbeats 4000000 in
set_option maxRecDepth 100000 in
theorem read_err (x : ByteArray) (w : World) (hG : GoodW w) (h0 : (lexR x).2.2 ≠ 0) : Calls Tryd.prog 22 #[.string x] w (RetRead (readR x) w) := by
  have hr : readR x = ([], [], (lexR x).2.1, (lexR x).2.2) := by unfold readR; rw [if_neg h0]
  rw [hr]
  have hl := Lib.hid (lexC.calls x (lexR x).1 (lexR x).2.1 (lexR x).2.2 w hG rfl)
  generalize (lexR x).2.2 = e0 at hl h0 ⊢
  generalize (lexR x).2.1 = p0 at hl ⊢
  generalize (lexR x).1 = toks at hl
  have b0 : (e0 == 0) = false := by simpa using h0
  have b1 : (e0 != 0) = true := by simpa using h0
  clear hr h0 hG
  go_enter Tryd.func22, Tryd.ntmps22
  go_wp2_with (go_at_call 17; refine hl.out.mono ?_; rintro e w1 ⟨v0, rfl, hR, hB⟩; have HB := Aside0.mk hB; clear hR hB hl)
  exact bodyPost_ret (v := .tuple #[.slice none 0 0, .slice none 0 0, .int .i64 p0, .int .i64 e0]) (by simp [results, Tryd.results22, go_sem]) rfl (ret_none _ _ _ _ HB.out)

/-- how far the loop has come. -/
def Upto (toks : List S30) (w1 : World) (b k : Nat) (wr : World) : Prop :=
  ∃ s, run ⟨[], [], []⟩ (toks.take k) = .ok s ∧ RdE wr w1.heap.size b s ∧ Below w1.heap.size w1 wr ∧ Small (60 * k) s ∧ s.ops.length ≤ 50
theorem upto_zero (toks : List S30) (w1 : World) : Upto toks w1 w1.heap.size 0 (w1.alloc (.cells #[.slice none 0 0, .slice none 0 0, .slice none 0 0] 63)) := by
  refine ⟨⟨[], [], []⟩, rfl, ⟨fun k => if k = w1.heap.size then 0 else 9, _, _, _, ⟨heap_alloc_new _ _, Nat.le_refl _, if_pos rfl, Kd.R_nil _ _ _ _ _, Kd.R_nil _ _ _ _ _, [], trivial, fun k hk => by simp [Value.ownBlock] at hk, World.ownsRow_nil _ _ _ _⟩⟩, below_alloc (Below.refl _ _) _, ⟨Nat.zero_le _, Nat.zero_le _, fun o h => absurd h (by simp)⟩, Nat.zero_le _⟩
theorem rd_T30_at (toks : List S30) (i : Nat) (h : i < toks.length) : rd_T30 toks (i : Int) = toks[i] := by
  simp [rd_T30, List.getD_eq_getElem?_getD, h]
theorem run_next (toks : List S30) (xi : Int) (h0 : 0 ≤ xi) (h1 : xi < (toks.length : Int)) (s : St) (hs : run ⟨[], [], []⟩ (toks.take xi.toNat) = .ok s) :
    run ⟨[], [], []⟩ (toks.take (xi + 1).toNat) = run s [rd_T30 toks xi] ∧ ((tok s (rd_T30 toks xi)).2 ≠ 0 → run ⟨[], [], []⟩ toks = .error ((rd_T30 toks xi).f1, (tok s (rd_T30 toks xi)).2)) := by
  obtain ⟨i, rfl⟩ := Int.eq_ofNat_of_zero_le h0
  have hi : i < toks.length := by omega
  have e : ((i : Int) + 1).toNat = i + 1 := by omega
  rw [rd_T30_at toks i hi, e]
  simp only [Int.toNat_natCast] at hs ⊢
  constructor
  · rw [List.take_succ_eq_append_getElem hi, run_append, hs]
  · intro hne
    have e2 : toks.take i ++ toks[i] :: toks.drop (i + 1) = toks := by rw [← List.drop_eq_getElem_cons hi, List.take_append_drop]
    have key : run ⟨[], [], []⟩ (toks.take i ++ toks[i] :: toks.drop (i + 1)) = .error (toks[i].f1, (tok s toks[i]).2) := by
      rw [run_append, hs]
      simp only [run]
      rw [if_neg hne]
    rwa [e2] at key
theorem upto_next {toks : List S30} {w1 wr w4 : World} {b : Nat} {xi : Int} {s : St} {t : S30} (h0 : 0 ≤ xi) (hn : run ⟨[], [], []⟩ (toks.take (xi + 1).toNat) = run s [t]) (he : (tok s t).2 = 0) (hE : RdE w4 w1.heap.size b (tok s t).1)
    (hB : Below w1.heap.size w1 wr) (hB4 : Below w1.heap.size wr w4) (hs : Small (60 * xi.toNat + 60) (tok s t).1 ∧ (tok s t).1.ops.length ≤ 50) : Upto toks w1 b (xi + 1).toNat w4 := by
  refine ⟨(tok s t).1, ?_, hE, hB.trans hB4, ?_, hs.2⟩
  · rw [hn]
    simp only [run]
    rw [if_pos he]
  · have : 60 * (xi + 1).toNat = 60 * xi.toNat + 60 := by omega
    rw [this]; exact hs.1
theorem below_alloc' {n : Nat} {w : World} {o : Obj} (h : n ≤ w.heap.size) : Below n w (w.alloc o) := (Below.refl _ _).alloc h _
theorem ret_some {w w1 wr w' : World} {toks : List S30} {b : Nat} {lab : Nat → Nat} {vr vt vo : Value} {row : List S46} {tops : List Int} (hrun : run ⟨[], [], []⟩ toks = .ok ⟨row, tops, []⟩) (h : Rd wr w1.heap.size b lab vr vt vo ⟨row, tops, []⟩)
    (hB : Below w.heap.size w w1) (hB1 : Below w1.heap.size w1 wr) {k : Nat} (hw : w' = wr.drewN k) {e : Ending} (he : e = .returned (.tuple #[vr, vt, .int .i64 0, .int .i64 0])) : RetRead (readT toks) w e w' := by
  have hr : readT toks = (row, tops, 0, 0) := by unfold readT; rw [hrun]; rfl
  rw [hr, hw, he]
  refine ⟨_, _, rfl, Kd.R_lower (Kd.R_mono (Kd.R_move h.row (fun _ _ => rfl)) (fun k hk e => ?_)) hB.size, Kd.R_lower (Kd.R_mono (Kd.R_move h.tops (fun _ _ => rfl)) (fun _ _ => trivial)) hB.size, pw_below_drewN (hB.trans (hB1.mono hB.size)) _⟩
  have h2 := h.tops.1 k e.symm
  omega
theorem last_k (toks : List S30) (h : 0 < (toks.length : Int)) : lastK toks = (rd_T30 toks ((toks.length : Int) - 1)).f0 := by
  have e : ((toks.length : Int) - 1) = ((toks.length - 1 : Nat) : Int) := by omega
  rw [e, rd_T30_at toks _ (by omega)]
  unfold lastK
  rw [List.getLast?_eq_getElem?, List.getElem?_eq_getElem (by omega)]
theorem ret_open {w w' : World} {toks : List S30} {row : List S46} {tops : List Int} {o : Opn} {os : List Opn} (hrun : run ⟨[], [], []⟩ toks = .ok ⟨row, tops, o :: os⟩) (k er : Int) (hk : lastK toks = k) (her : (if k = 3 then 63 else 60) = er) (hB : Below w.heap.size w w') :
    RetRead (readT toks) w (.returned (.tuple #[.slice none 0 0, .slice none 0 0, .int .i64 o.p, .int .i64 er])) w' := by
  have hr : readT toks = ([], [], o.p, er) := by
    unfold readT; rw [hrun]
    simp only [fin2]
    rw [hk, her]
  rw [hr]
  exact ret_none _ _ _ _ hB
theorem read_bad {toks : List S30} {p e2 : Int} (h : run ⟨[], [], []⟩ toks = .error (p, e2)) : readT toks = ([], [], p, e2) := by
  unfold readT; rw [h]; rfl
set_option maxHeartbeats 4000000 in
set_option maxRecDepth 100000 in
theorem read_ok (x : ByteArray) (w : World) (hG : GoodW w) (h0 : (lexR x).2.2 = 0) : Calls Tryd.prog 22 #[.string x] w (RetRead (readR x) w) := by
  have hr : readR x = readT (lexR x).1 := by unfold readR; rw [if_pos h0]
  rw [hr]
  have hl := Lib.hid (lexC.calls x (lexR x).1 (lexR x).2.1 (lexR x).2.2 w hG rfl)
  have hln := Go.Proofs.YthempkdgmobocaaDoorRd.lexR_len x
  rw [h0] at hl
  generalize (lexR x).2.1 = p0 at hl
  generalize (lexR x).1 = toks at hl hln ⊢
  clear hr h0 hG
  go_enter Tryd.func22, Tryd.ntmps22
  go_wp2_with (go_at_call 17; refine hl.out.mono ?_; rintro e w1 ⟨v0, rfl, hR, hB⟩; obtain ⟨A, c, rfl, hc, hC⟩ := Kd.R_reads hR; have HB := Aside0.mk hB; have HC := Aside0.mk hC; clear hR hB hl hC)
  go_loopw [26] (fun i wr => ∃ xi : Int, 0 ≤ xi ∧ xi ≤ (toks.length : Int) ∧ i = .int .i64 xi ∧ Upto toks w1 w1.heap.size xi.toNat wr) (fun i _ => (toks.length - (intOf i).toNat))
  case atStart => exact ⟨0, by omega, by omega, rfl, upto_zero toks w1⟩
  case round =>
    obtain ⟨xi, hx0, hx1, rfl, HU⟩ := hrel
    obtain ⟨s, hrun, hRd, hB1, hSm, ho⟩ := HU
    obtain ⟨lab, vr, vt, vo, hR⟩ := hRd
    by_cases hlt : xi < (toks.length : Int)
    · obtain ⟨ad, e, t0, t1, t2, t3⟩ := at_T30 (Kd.C_below HC.out hB1) xi hx0 hlt
      obtain ⟨hn1, hn2⟩ := run_next toks xi hx0 hlt s hrun
      generalize rd_T30 toks xi = t at t0 t1 t2 t3 hn1 hn2
      obtain ⟨e2, he2⟩ : ∃ e2, (tok s t).2 = e2 := ⟨_, rfl⟩
      have hts := tok_small s t _ hSm ho
      have hwz : w1.heap.size ≤ wr.heap.size := hB1.size
      have HN1 := Aside0.mk hn1
      have HN2 := Aside0.mk hn2
      have HE2 := Aside0.mk he2
      have HR := Aside0.mk hR
      have HB1 := Aside0.mk hB1
      have HS := Aside0.mk hSm
      have HTS := Aside0.mk hts
      cases e
      clear hrun hn1 hn2 he2 hR hB1 hSm hts
      by_cases h0 : e2 = 0
      · have c0 : (e2 == 0) = true := by simpa using h0
        have c1 : (e2 != 0) = false := by simpa using h0
        have H0 := Aside0.mk h0
        clear h0
        go_wp2_with (go_at_call 36; refine (tok_calls _ w1.heap.size w1.heap.size (fresh lab wr.heap.size 5) vr vt vo s t (60 * xi.toNat) (by exact HR.out.relab (fun j hj => push_old wr _ j hj) (fun k hk => fresh_old _ _ _ _ hk)) HS.out (by omega) (by simp; omega)).mono ?_; rintro e w4 ⟨he, hE, hB4, hK4⟩; rw [HE2.out] at he; subst he; have HE := Aside0.mk hE; have HB4 := Aside0.mk hB4; clear hE hB4 hK4)
        go_roundw
        case rel => exact ⟨xi + 1, by omega, by omega, rfl, upto_next hx0 HN1.out (HE2.out.trans H0.out) HE.out HB1.out ((below_alloc' hwz).trans HB4.out) HTS.out⟩
        case measure => simp [intOf]; omega
      · have c0 : (e2 == 0) = false := by simpa using h0
        have c1 : (e2 != 0) = true := by simpa using h0
        have H0 := Aside0.mk h0
        clear h0
        go_wp2_with (go_at_call 36; refine (tok_calls _ w1.heap.size w1.heap.size (fresh lab wr.heap.size 5) vr vt vo s t (60 * xi.toNat) (by exact HR.out.relab (fun j hj => push_old wr _ j hj) (fun k hk => fresh_old _ _ _ _ hk)) HS.out (by omega) (by simp; omega)).mono ?_; rintro e w4 ⟨he, hE, hB4, hK4⟩; rw [HE2.out] at he; subst he; have HB4 := Aside0.mk hB4; have c1 : w4.cell? ⟨wr.heap.size, 1, none⟩ = some (.int .i64 t.f1) := (World.cell?_of_block (a := ⟨wr.heap.size, 1, none⟩) (hK4 wr.heap.size (by simp) (fresh_new _ _ _ _ (Nat.le_refl _)))).trans (by go_simp); clear hE hB4 hK4)
        go_quiet (fail)
        go_wp2
        have hq := read_bad (HN2.out (by rw [HE2.out]; exact H0.out))
        rw [HE2.out] at hq
        rw [hq]
        exact bodyPost_ret (v := .tuple #[.slice none 0 0, .slice none 0 0, .int .i64 t.f1, .int .i64 e2]) (by simp [results, Tryd.results22, go_sem]) rfl (ret_none _ _ _ _ (pw_below_drewN (HB.out.trans ((HB1.out.trans ((below_alloc' hwz).trans HB4.out)).mono HB.out.size)) _))
    · have hxe : xi = (toks.length : Int) := by omega
      have hrun' : run ⟨[], [], []⟩ toks = .ok s := by rw [hxe] at hrun; simpa using hrun
      have HRun := Aside0.mk hrun'
      have hwz : w1.heap.size ≤ wr.heap.size := hB1.size
      have HX := Aside0.mk hxe
      have hge : ¬ xi < (toks.length : Int) := hlt
      clear hrun hrun' hxe hlt
      obtain ⟨row, tops, ops⟩ := s
      cases ops with
      | nil =>
        obtain ⟨Ao, co, rfl⟩ : ∃ A c, vo = .slice A 0 c := by
          obtain ⟨ps, _, _, ho⟩ := hR.ptr
          exact own_slice ho
        obtain ⟨A0, d0, rfl⟩ := Kd.R_slice hR.row
        obtain ⟨A1, d1, rfl⟩ := Kd.R_slice hR.tops
        have hl := Lib.hid (last_none wr _ _ _ Ao co hR.here)
        have c0 : wr.cell? ⟨w1.heap.size, 0, none⟩ = some _ := cell_blk hR.here 0 _ rfl
        have c1 : wr.cell? ⟨w1.heap.size, 1, none⟩ = some _ := cell_blk hR.here 1 _ rfl
        have HR := Aside0.mk hR
        have HB1 := Aside0.mk hB1
        clear hR hB1 hSm
        go_wp2_with (go_at_call 37; refine hl.out.mono ?_; rintro e w3 ⟨rfl, rfl⟩; clear hl)
        go_quiet (fail)
        go_wp2
        exact bodyPost_ret (v := .tuple #[.slice A0 row.length d0, .slice A1 tops.length d1, .int .i64 0, .int .i64 0]) (by simp [results, Tryd.results22, go_sem]) rfl (ret_some HRun.out HR.out HB.out HB1.out rfl rfl)
      | cons o os =>
        obtain ⟨p, g, cc, Al, cl, rfl, hcn, hE, hcp, hh, hbp, -⟩ := hR.top
        have hl := Lib.hid (last_p wr _ _ _ g os.length cc p hR.here hcp (by simp at ho; omega))
        have hpos : 0 < (toks.length : Int) := by
          rcases Nat.eq_zero_or_pos toks.length with h | h
          · rw [List.eq_nil_of_length_eq_zero h] at HRun
            have := HRun.out
            simp [run] at this
          · omega
        obtain ⟨ad, e, t0, -, -, -⟩ := at_T30 (Kd.C_below HC.out hB1) ((toks.length : Int) - 1) (by omega) (by omega)
        cases e
        have hk := last_k toks hpos
        rw [show ((toks.length : Int) - 1).toNat = toks.length - 1 from by omega] at t0
        generalize rd_T30 toks ((toks.length : Int) - 1) = t at t0 hk
        have HK := Aside0.mk hk
        have p0' := Aside0.mk (show wr.cell? ⟨p, 0, none⟩ = some (.int .i64 o.p) from cell_blk hh 0 _ rfl)
        have HB1 := Aside0.mk hB1
        have wn : IntKind.i64.wrap ((toks.length : Int) - 1) = (toks.length : Int) - 1 := IntWalk.i64_in _ (by omega)
        have i0 : (0 : Int) ≤ (toks.length : Int) - 1 := by omega
        have i1 : (toks.length : Int) - 1 < (toks.length : Int) := by omega
        clear hR hB1 hSm hE hcp hh hbp hk
        by_cases hq : t.f0 = 3
        · have c0 : (t.f0 == 3) = true := by simpa using hq
          have d0 : decide (t.f0 = 3) = true := decide_eq_true hq
          have HQ := Aside0.mk hq
          clear hq
          go_wp2_with (go_at_call 37; refine hl.out.mono ?_; rintro e w3 ⟨rfl, hh3, hB3⟩; have p0 : w3.cell? ⟨p, 0, none⟩ = some (.int .i64 o.p) := (World.cell?_of_block (by rw [hh3])).trans p0'.out; have t0 : w3.cell? (ad.add ((toks.length - 1) * 4)) = some (.int .u8 t.f0) := (World.cell?_of_block (by rw [hh3])).trans t0; have HB3 := Aside0.mk (HB1.out.trans (hB3.mono hwz)); clear hh3 hB3 hl)
          go_quiet (fail)
          go_wp2
          exact bodyPost_ret (v := .tuple #[.slice none 0 0, .slice none 0 0, .int .i64 o.p, .int .i64 63]) (by simp [results, Tryd.results22, go_sem]) rfl (ret_open HRun.out t.f0 63 HK.out (if_pos HQ.out) (pw_below_drewN (HB.out.trans (HB3.out.mono HB.out.size)) _))
        · have c0 : (t.f0 == 3) = false := by simpa using hq
          have d0 : decide (t.f0 = 3) = false := decide_eq_false hq
          have HQ := Aside0.mk hq
          clear hq
          go_wp2_with (go_at_call 37; refine hl.out.mono ?_; rintro e w3 ⟨rfl, hh3, hB3⟩; have p0 : w3.cell? ⟨p, 0, none⟩ = some (.int .i64 o.p) := (World.cell?_of_block (by rw [hh3])).trans p0'.out; have t0 : w3.cell? (ad.add ((toks.length - 1) * 4)) = some (.int .u8 t.f0) := (World.cell?_of_block (by rw [hh3])).trans t0; have HB3 := Aside0.mk (HB1.out.trans (hB3.mono hwz)); clear hh3 hB3 hl)
          go_quiet (fail)
          go_wp2
          exact bodyPost_ret (v := .tuple #[.slice none 0 0, .slice none 0 0, .int .i64 o.p, .int .i64 60]) (by simp [results, Tryd.results22, go_sem]) rfl (ret_open HRun.out t.f0 60 HK.out (if_neg HQ.out) (pw_below_drewN (HB.out.trans (HB3.out.mono HB.out.size)) _))
end Go.Proofs.YthempkdgmobocaaDoorE
end
