/- Texts of this claim, one behind the other: Ee, Ef, Eg. -/
import Derived.Test.YthempkdgmobocaaDoorBd
import Derived.Deep.DeepCutAuto
section
/- The state of the reference's reader in memory. -/
namespace Go.Proofs.YthempkdgmobocaaDoorE
open Go Go.RowKit Go.Proofs.YthempkdgmobocaaDoorEd Go.Proofs.YthempkdgmobocaaDoor.L Go.Proofs.YthempkdgmobocaaDoor.N Go.Proofs.YthempkdgmobocaaDoorM
open Go.Proofs.YthempkdgmobocaaDoorW.PrintWords Go.Proofs.YthempkdgmobocaaDoorW.PrintLast Go.Proofs.YthempkdgmobocaaDoorW.PrintMore

/-- lists that are open, the last opened first: what each has. -/
def EachF (w : World) (base : Nat) (lab : Nat → Nat) : List Value → List Opn → Prop
  | [], [] => True
  | v :: vs, o :: os => (Kd.int .i64).R 3 w base (fun k => lab k = 6 + os.length) v o.l ∧ EachF w base lab vs os
  | _, _ => False
theorem EachF.step {w w1 : World} {base : Nat} {lab lab' : Nat → Nat} : ∀ {vs : List Value} {os : List Opn}, EachF w base lab vs os →
    (∀ k, k < w.heap.size → 6 ≤ lab k → lab k < 6 + os.length → w1.heap[k]? = w.heap[k]? ∧ lab' k = lab k) → EachF w1 base lab' vs os
  | [], [], _, _ => trivial
  | v :: vs, o :: os, ⟨hr, he⟩, hm => by
    refine ⟨R_lab hr (fun k hk hc => ?_), he.step (fun k hk h1 h2 => hm k hk h1 (by simp; omega))⟩
    have := hm k hk (by omega) (by simp; omega)
    exact ⟨this.1, this.2.trans hc⟩
  | [], _ :: _, h, _ => h.elim
  | _ :: _, [], h, _ => h.elim
/-- their cells, the first opened first. -/
def cellsF : List Value → List Opn → List Value
  | v :: vs, o :: os => cellsF vs os ++ [.int .i64 o.p, .bool o.q, v]
  | _, _ => []
theorem cellsF_len {w : World} {base : Nat} {lab : Nat → Nat} : ∀ {vs : List Value} {os : List Opn}, EachF w base lab vs os → (cellsF vs os).length = os.length * 3
  | [], [], _ => rfl
  | v :: vs, o :: os, h => by simp [cellsF, cellsF_len h.2, Nat.add_mul]
  | [], _ :: _, h => h.elim
  | _ :: _, [], h => h.elim
theorem cellsF_one {w : World} {base : Nat} {lab : Nat → Nat} : ∀ {vs : List Value} {os : List Opn}, EachF w base lab vs os → ∀ u ∈ cellsF vs os, u.oneCell' = true
  | [], [], _, u, hu => by simp [cellsF] at hu
  | v :: vs, o :: os, h, u, hu => by
    simp only [cellsF, List.mem_append, List.mem_cons, List.not_mem_nil, or_false] at hu
    rcases hu with hu | rfl | rfl | rfl
    · exact cellsF_one h.2 u hu
    · rfl
    · rfl
    · obtain ⟨A, c, rfl⟩ := Kd.R_slice h.1
      rfl
  | [], _ :: _, h, _, _ => h.elim
  | _ :: _, [], h, _, _ => h.elim
structure Rf (w : World) (base b : Nat) (lab : Nat → Nat) (vr vt vo : Value) (s : St) : Prop where
  here : w.heap[b]? = some (.cells #[vr, vt, vo] 72 (0, 0))
  bb : base ≤ b
  lb : lab b = 0
  row : k46.R 46 w base (fun k => lab k = 1) vr s.row
  tops : (Kd.int .i64).R 3 w base (fun k => lab k = 2) vt s.tops
  ptr : ∃ vs, EachF w base lab vs s.ops ∧ (∀ k, vo.ownBlock = some k → lab k = 3) ∧ w.ownsRow base 74 3 vo s.ops.length (cellsF vs s.ops)
theorem Rf.rowed {w w1 : World} {base b : Nat} {lab lab' : Nat → Nat} {vr vt vo v1 : Value} {s : St} {x : S46} (h : Rf w base b lab vr vt vo s) (hc : Chg w w1 lab lab' 1)
    (hr : k46.R 46 w1 base (fun k => lab' k = 1) v1 (s.row ++ [x])) : Rf (w1.setCell ⟨b, 0, none⟩ v1) base b lab' v1 vt vo ⟨s.row ++ [x], s.tops, s.ops⟩ := by
  have hb := lt_of_heap h.here
  have h0 := h.lb
  have hb1 : w1.heap[b]? = _ := (hc.heap b hb (by omega)).trans h.here
  have l0 : lab' b = 0 := (hc.old b hb).trans h0
  have key : ∀ k, k < w.heap.size → lab k ≠ 1 → lab k ≠ 0 → (w1.setCell ⟨b, 0, none⟩ v1).heap[k]? = w.heap[k]? ∧ lab' k = lab k := fun k hk h1 h2 =>
    ⟨(heap_set_other w1 b 0 k v1 (by rintro rfl; exact h2 h0)).trans (hc.heap k hk h1), hc.old k hk⟩
  obtain ⟨ps, he, hp, ho⟩ := h.ptr
  refine ⟨heap_set_at hb1 0 v1, h.bb, l0, Kd.R_far (p := ⟨b, 0, none⟩) hr (fun k hk => by rintro rfl; exact absurd (l0.symm.trans hk) (by decide)) v1, R_lab h.tops (fun k hk hl => ?_), ps, he.step (fun k hk h1 _ => key k hk (by omega) (by omega)), fun k hk => ?_, own_lab ho (fun k hk hv => (key k hk (by have := hp k hv; omega) (by have := hp k hv; omega)).1)⟩
  · have := key k hk (by omega) (by omega)
    exact ⟨this.1, this.2.trans hl⟩
  · rw [hc.old k (own_lt ho k hk)]; exact hp k hk
theorem Rf.topped {w w1 : World} {base b : Nat} {lab lab' : Nat → Nat} {vr vt vo v1 : Value} {s : St} {xs : List Int} (h : Rf w base b lab vr vt vo s) (hc : Chg w w1 lab lab' 2)
    (hr : (Kd.int .i64).R 3 w1 base (fun k => lab' k = 2) v1 xs) : Rf (w1.setCell ⟨b, 1, none⟩ v1) base b lab' vr v1 vo ⟨s.row, xs, s.ops⟩ := by
  have hb := lt_of_heap h.here
  have h0 := h.lb
  have hb1 : w1.heap[b]? = _ := (hc.heap b hb (by omega)).trans h.here
  have l0 : lab' b = 0 := (hc.old b hb).trans h0
  have key : ∀ k, k < w.heap.size → lab k ≠ 2 → lab k ≠ 0 → (w1.setCell ⟨b, 1, none⟩ v1).heap[k]? = w.heap[k]? ∧ lab' k = lab k := fun k hk h1 h2 =>
    ⟨(heap_set_other w1 b 1 k v1 (by rintro rfl; exact h2 h0)).trans (hc.heap k hk h1), hc.old k hk⟩
  obtain ⟨ps, he, hp, ho⟩ := h.ptr
  refine ⟨heap_set_at hb1 1 v1, h.bb, l0, R_lab h.row (fun k hk hl => ?_), Kd.R_far (p := ⟨b, 1, none⟩) hr (fun k hk => by rintro rfl; exact absurd (l0.symm.trans hk) (by decide)) v1, ps, he.step (fun k hk h1 _ => key k hk (by omega) (by omega)), fun k hk => ?_, own_lab ho (fun k hk hv => (key k hk (by have := hp k hv; omega) (by have := hp k hv; omega)).1)⟩
  · have := key k hk (by omega) (by omega)
    exact ⟨this.1, this.2.trans hl⟩
  · rw [hc.old k (own_lt ho k hk)]; exact hp k hk
/-- what was opened last has grown. -/
theorem Rf.grew {w w1 : World} {base b g c : Nat} {lab lab' : Nat → Nat} {vr vt vl v1 : Value} {row : List S46} {tops : List Int} {o : Opn} {os : List Opn} {xs : List Int} (h : Rf w base b lab vr vt (.slice (some ⟨g, 0, none⟩) (os.length + 1) c) ⟨row, tops, o :: os⟩)
    (hp : ∃ vs, EachF w base lab (vl :: vs) (o :: os) ∧ w.ownsRow base 74 3 (.slice (some ⟨g, 0, none⟩) (os.length + 1) c) (os.length + 1) (cellsF (vl :: vs) (o :: os))) (hc : Chg w w1 lab lab' (6 + os.length))
    (hr : (Kd.int .i64).R 3 w1 base (fun k => lab' k = 6 + os.length) v1 xs) : Rf (w1.setCell ⟨g, os.length * 3 + 2, none⟩ v1) base b lab' vr vt (.slice (some ⟨g, 0, none⟩) (os.length + 1) c) ⟨row, tops, ⟨o.p, o.q, xs⟩ :: os⟩ := by
  obtain ⟨vs, ⟨hpr, he⟩, ho⟩ := hp
  have hlab : lab g = 3 := by
    obtain ⟨_, _, h, _⟩ := h.ptr
    exact h g rfl
  have hglt := own_lt ho g rfl
  have hb := lt_of_heap h.here
  have h0 := h.lb
  have hl3 : lab' g = 3 := (hc.old g hglt).trans hlab
  have key : ∀ k, k < w.heap.size → lab k ≠ 6 + os.length → lab k ≠ 3 → (w1.setCell ⟨g, os.length * 3 + 2, none⟩ v1).heap[k]? = w.heap[k]? ∧ lab' k = lab k := fun k hk h1 h2 =>
    ⟨(heap_set_other w1 g _ k v1 (by rintro rfl; exact h2 hlab)).trans (hc.heap k hk h1), hc.old k hk⟩
  have ho1 : w1.ownsRow base 74 3 (.slice (some ⟨g, 0, none⟩) (os.length + 1) c) (os.length + 1) (cellsF (vl :: vs) (o :: os)) := own_lab ho (fun k hk hv => by
    have : g = k := by simpa [Value.ownBlock] using hv
    subst this
    exact hc.heap g hk (by omega))
  have hs := (ho1.stored (os.length * 3 + 2) v1).1
  have hlen := cellsF_len he
  refine ⟨(key b hb (by omega) (by omega)).1.trans h.here, h.bb, (hc.old b hb).trans h0, R_lab h.row (fun k hk hl => ?_), R_lab h.tops (fun k hk hl => ?_), v1 :: vs, ⟨Kd.R_far (p := ⟨g, os.length * 3 + 2, none⟩) hr (fun k hk => by rintro rfl; exact absurd (hl3.symm.trans hk) (by omega)) v1, he.step (fun k hk h1 h2 => key k hk (by omega) (by omega))⟩, fun k hk => ?_, ?_⟩
  · have := key k hk (by omega) (by omega)
    exact ⟨this.1, this.2.trans hl⟩
  · have := key k hk (by omega) (by omega)
    exact ⟨this.1, this.2.trans hl⟩
  · have : g = k := by simpa [Value.ownBlock] using hk
    subst this
    exact hl3
  · have e : (cellsF (vl :: vs) (o :: os)).set (os.length * 3 + 2) v1 = cellsF (v1 :: vs) (⟨o.p, o.q, xs⟩ :: os) := by
      simp only [cellsF]
      rw [List.set_append_right _ _ (by omega), hlen]
      simp
    rw [e] at hs
    exact hs
/-- what was opened last is taken away; what it has is by itself. -/
theorem Rf.popped {w w1 : World} {base b : Nat} {lab lab' : Nat → Nat} {vr vt vo vl v1 : Value} {row : List S46} {tops : List Int} {o : Opn} {os : List Opn} {vs : List Value} (h : Rf w base b lab vr vt vo ⟨row, tops, o :: os⟩)
    (hE : EachF w base lab (vl :: vs) (o :: os)) (hc : Chg w w1 lab lab' 3) (hv : ∀ k, v1.ownBlock = some k → lab' k = 3) (ho : w1.ownsRow base 74 3 v1 os.length (cellsF vs os)) :
    ∃ lab2, Rf (w1.setCell ⟨b, 2, none⟩ v1) base b lab2 vr vt v1 ⟨row, tops, os⟩ ∧ (Kd.int .i64).R 3 (w1.setCell ⟨b, 2, none⟩ v1) base (fun k => lab2 k = 4) vl o.l := by
  obtain ⟨hr, he⟩ := hE
  have hb := lt_of_heap h.here
  have h0 := h.lb
  have hb1 : w1.heap[b]? = _ := (hc.heap b hb (by omega)).trans h.here
  have l0 : lab' b = 0 := (hc.old b hb).trans h0
  have key : ∀ k, k < w.heap.size → lab k ≠ 3 → lab k ≠ 0 → (w1.setCell ⟨b, 2, none⟩ v1).heap[k]? = w.heap[k]? ∧ lab' k = lab k := fun k hk h1 h2 =>
    ⟨(heap_set_other w1 b 2 k v1 (by rintro rfl; exact h2 h0)).trans (hc.heap k hk h1), hc.old k hk⟩
  have ne : ∀ k c', lab' k = c' → c' ≠ 6 + os.length → (if lab' k = 6 + os.length then 4 else lab' k) = c' := fun k c' h1 h2 => by rw [if_neg (by omega)]; exact h1
  refine ⟨fun k => if lab' k = 6 + os.length then 4 else lab' k, ⟨heap_set_at hb1 2 v1, h.bb, ne _ _ l0 (by omega), R_lab h.row (fun k hk hl => ?_), R_lab h.tops (fun k hk hl => ?_), vs, he.step (fun k hk h1 h2 => ?_), fun k hk => ne _ _ (hv k hk) (by omega), own_move ho (fun k hk => heap_set_other w1 b 2 k v1 (by rintro rfl; have := hv _ hk; omega))⟩, R_lab hr (fun k hk hl => ?_)⟩
  · have := key k hk (by omega) (by omega)
    exact ⟨this.1, ne _ _ (this.2.trans hl) (by omega)⟩
  · have := key k hk (by omega) (by omega)
    exact ⟨this.1, ne _ _ (this.2.trans hl) (by omega)⟩
  · have := key k hk (by omega) (by omega)
    exact ⟨this.1, ne _ _ this.2 (by omega)⟩
  · have := key k hk (by omega) (by omega)
    exact ⟨this.1, if_pos (this.2.trans hl)⟩
/-- a new list is open. -/
theorem Rf.pushed {w w1 : World} {base b : Nat} {lab lab' : Nat → Nat} {vr vt vo v1 : Value} {s : St} {o : Opn} {vs : List Value} (h : Rf w base b lab vr vt vo s) (hc : Chg w w1 lab lab' 3) (hol : o.l = [])
    (hv : ∀ k, v1.ownBlock = some k → lab' k = 3) (he : EachF w base lab vs s.ops) (ho : w1.ownsRow base 74 3 v1 (s.ops.length + 1) (cellsF vs s.ops ++ [.int .i64 o.p, .bool o.q, .slice none 0 0])) :
    Rf (w1.setCell ⟨b, 2, none⟩ v1) base b lab' vr vt v1 ⟨s.row, s.tops, o :: s.ops⟩ := by
  have hb := lt_of_heap h.here
  have h0 := h.lb
  have hb1 : w1.heap[b]? = _ := (hc.heap b hb (by omega)).trans h.here
  have l0 : lab' b = 0 := (hc.old b hb).trans h0
  have key : ∀ k, k < w.heap.size → lab k ≠ 3 → lab k ≠ 0 → (w1.setCell ⟨b, 2, none⟩ v1).heap[k]? = w.heap[k]? ∧ lab' k = lab k := fun k hk h1 h2 =>
    ⟨(heap_set_other w1 b 2 k v1 (by rintro rfl; exact h2 h0)).trans (hc.heap k hk h1), hc.old k hk⟩
  refine ⟨heap_set_at hb1 2 v1, h.bb, l0, R_lab h.row (fun k hk hl => ?_), R_lab h.tops (fun k hk hl => ?_), .slice none 0 0 :: vs, ⟨by rw [hol]; exact Kd.R_nil _ _ _ _ _, he.step (fun k hk h1 _ => key k hk (by omega) (by omega))⟩, hv, own_move ho (fun k hk => heap_set_other w1 b 2 k v1 (by rintro rfl; have := hv _ hk; omega))⟩
  · have := key k hk (by omega) (by omega)
    exact ⟨this.1, this.2.trans hl⟩
  · have := key k hk (by omega) (by omega)
    exact ⟨this.1, this.2.trans hl⟩
theorem Rf.relab {w w1 : World} {base b : Nat} {lab lab' : Nat → Nat} {vr vt vo : Value} {s : St} (h : Rf w base b lab vr vt vo s) (hh : ∀ k, k < w.heap.size → w1.heap[k]? = w.heap[k]?) (hl : ∀ k, k < w.heap.size → lab' k = lab k) : Rf w1 base b lab' vr vt vo s := by
  obtain ⟨ps, he, hp, ho⟩ := h.ptr
  have hb := lt_of_heap h.here
  exact ⟨(hh b hb).trans h.here, h.bb, (hl b hb).trans h.lb, R_lab h.row (fun k hk hl' => ⟨hh k hk, (hl k hk).trans hl'⟩), R_lab h.tops (fun k hk hl' => ⟨hh k hk, (hl k hk).trans hl'⟩), ps, he.step (fun k hk _ _ => ⟨hh k hk, hl k hk⟩), fun k hk => (hl k (own_lt ho k hk)).trans (hp k hk), own_lab ho (fun k hk _ => hh k hk)⟩
theorem Rf.same {w w1 : World} {base b : Nat} {lab : Nat → Nat} {vr vt vo : Value} {s : St} (h : Rf w base b lab vr vt vo s) (hh : w1.heap = w.heap) : Rf w1 base b lab vr vt vo s :=
  h.relab (fun k _ => by rw [hh]) (fun _ _ => rfl)
/-- what was opened last: where it lies. -/
theorem Rf.top {w : World} {base b : Nat} {lab : Nat → Nat} {vr vt vo : Value} {row : List S46} {tops : List Int} {o : Opn} {os : List Opn} (h : Rf w base b lab vr vt vo ⟨row, tops, o :: os⟩) :
    ∃ g c Al cl vs, vo = .slice (some ⟨g, 0, none⟩) (os.length + 1) c ∧ os.length + 1 ≤ c ∧ EachF w base lab (.slice Al o.l.length cl :: vs) (o :: os) ∧ w.ownsRow base 74 3 vo (os.length + 1) (cellsF (.slice Al o.l.length cl :: vs) (o :: os)) ∧
      w.cell? ⟨g, os.length * 3, none⟩ = some (.int .i64 o.p) ∧ w.cell? ⟨g, os.length * 3 + 1, none⟩ = some (.bool o.q) ∧ w.cell? ⟨g, os.length * 3 + 2, none⟩ = some (.slice Al o.l.length cl) ∧
      (∀ j, w.frozen? ⟨g, j, none⟩ = false) ∧ b ≠ g ∧ (∀ j u, (cellsF vs os)[j]? = some u → w.cell? ⟨g, j, none⟩ = some u) ∧ base ≤ g ∧ lab g = 3 ∧ g < w.heap.size := by
  obtain ⟨vs, he, hp, ho⟩ := h.ptr
  match vs, he with
  | vl :: vs, he =>
    obtain ⟨Al, cl, rfl⟩ := Kd.R_slice he.1
    obtain ⟨g, c, hv, _⟩ := ho.form (by simp)
    have hl := cellsF_len he.2
    have hc : ∀ j u, (cellsF (.slice Al o.l.length cl :: vs) (o :: os))[j]? = some u → w.cell? ⟨g, j, none⟩ = some u := fun j u hj => by
      have := ho.cells (g := g) (by rw [hv]; rfl) j u hj
      rwa [add_plain] at this
    have hg3 : lab g = 3 := hp g (by rw [hv]; rfl)
    refine ⟨g, c, Al, cl, vs, hv, ?_, he, ho, hc _ _ ?_, hc _ _ ?_, hc _ _ ?_, fun j => ?_, ?_, fun j u hj => hc j u ?_, ?_, hg3, own_lt ho g (by rw [hv]; rfl)⟩
    · rcases ho.2 with ⟨h', _⟩ | ⟨g', cap', cur, h', _, _, h2, _⟩
      · rw [hv] at h'; cases h'
      · rw [hv] at h'
        injection h' with _ _ h'
        simp at h2
        omega
    · simp only [cellsF]; rw [List.getElem?_append_right (by omega), hl]; simp
    · simp only [cellsF]; rw [List.getElem?_append_right (by omega), hl]; simp
    · simp only [cellsF]; rw [List.getElem?_append_right (by omega), hl]; simp
    · rcases ho.2 with ⟨h', _⟩ | ⟨g', cap', cur, h', _, hh, _⟩
      · rw [hv] at h'; cases h'
      · rw [hv] at h'
        injection h' with h' _ _
        injection h' with h'
        injection h' with h'
        subst h'
        exact free_blk hh j
    · rintro rfl
      have := h.lb
      omega
    · simp only [cellsF]
      rw [List.getElem?_append_left (List.getElem?_eq_some_iff.1 hj).1]
      exact hj
    · exact own_base ho g (by rw [hv]; rfl)
end Go.Proofs.YthempkdgmobocaaDoorE
end
section
/- The walk of the reference's reader: put, close. -/
namespace Go.Proofs.YthempkdgmobocaaDoorE
open Go Go.RowKit Go.Proofs.YthempkdgmobocaaDoorEd Go.Proofs.YthempkdgmobocaaDoor.L Go.Proofs.YthempkdgmobocaaDoor.N Go.Proofs.YthempkdgmobocaaDoorM
open Go.Proofs.YthempkdgmobocaaDoorW.PrintWords Go.Proofs.YthempkdgmobocaaDoorW.PrintLast Go.Proofs.YthempkdgmobocaaDoorW.PrintMore
attribute [local go_sem ↓] Go.wp_at_zero Go.wp_at_succ

def RfE (w : World) (base b : Nat) (s : St) : Prop := ∃ lab vr vt vo, Rf w base b lab vr vt vo s
def RetRf (base b : Nat) (s : St) (w : World) (e : Ending) (w' : World) : Prop := e = .returned (.tuple #[]) ∧ RfE w' base b s ∧ Below base w w'
theorem rowF_ne {w : World} {base b : Nat} {lab : Nat → Nat} {vr vt vo : Value} {s : St} (h : Rf w base b lab vr vt vo s) : some b ≠ vr.ownBlock := fun e => by
  have h1 := h.row.1 b e.symm
  have h2 := h.lb
  omega
theorem topF_ne {w : World} {base b : Nat} {lab : Nat → Nat} {vr vt vo : Value} {s : St} (h : Rf w base b lab vr vt vo s) : some b ≠ vt.ownBlock := fun e => by
  have h1 := h.tops.1 b e.symm
  have h2 := h.lb
  omega
theorem putF_row {w W w1 : World} {base b : Nat} {lab : Nat → Nat} {vr vt vo v1 : Value} {s : St} {x : S46} {o : Obj} (h : Rf w base b lab vr vt vo s)
    (ho : k46.R 46 w1 base (fun k => fresh lab w.heap.size 1 k = 1) v1 (s.row ++ [x])) (hB : Below base w w1) (hg : W.grownBy w1 vr.ownBlock) (hW : W.heap = w.heap.push o) :
    Rf (w1.setCell ⟨b, 0, none⟩ v1) base b (fresh lab w.heap.size 1) v1 vt vo ⟨s.row ++ [x], s.tops, s.ops⟩ ∧ Below base w (w1.setCell ⟨b, 0, none⟩ v1) :=
  ⟨h.rowed (Chg.of_push hg (fun k hk => h.row.1 k hk) hW) ho, hB.setCell h.bb _⟩
theorem putF_top {w w1 : World} {base b : Nat} {lab : Nat → Nat} {vr vt vo v1 : Value} {s : St} {xs : List Int} (h : Rf w base b lab vr vt vo s)
    (ho : (Kd.int .i64).R 3 w1 base (fun k => fresh lab w.heap.size 2 k = 2) v1 xs) (hg : w.grownBy w1 vt.ownBlock) : Rf (w1.setCell ⟨b, 1, none⟩ v1) base b (fresh lab w.heap.size 2) vr v1 vo ⟨s.row, xs, s.ops⟩ :=
  h.topped (Chg.of_grown hg (fun k hk => h.tops.1 k hk) rfl) ho
/-- behind the first step. -/
def Put1 (w wx : World) (base b : Nat) (vo : Value) (s : St) (x : S46) : Prop := ∃ lab vr vt, Rf wx base b lab vr vt vo ⟨s.row ++ [x], s.tops, s.ops⟩ ∧ Below base w wx

set_option maxHeartbeats 4000000 in
set_option maxRecDepth 100000 in
theorem putF_nil (w : World) (base b : Nat) (lab : Nat → Nat) (vr vt vo vL : Value) (row : List S46) (tops : List Int) (x : S46)
    (h : Rf w base b lab vr vt vo ⟨row, tops, []⟩) (hL : (Kd.int .i64).R 3 w base (fun k => lab k = 1 ∧ some k ≠ vr.ownBlock) vL x.f4) (hb : base ≤ w.heap.size) (h1 : row.length ≤ 1000000) (h2 : tops.length ≤ 1000000) :
    Calls Tryd.prog 50 #[.pointer (some ⟨b, 0, none⟩), .agg #[.int .u8 x.f0, .int .i64 x.f1, .int .i64 x.f2, .string x.f3, vL]] w (RetRf base b (put [] row tops x) w) := by
  obtain ⟨Ar, cr, rfl, hlr, -⟩ := Kd.R_reads h.row
  obtain ⟨Ao, co, rfl⟩ : ∃ A c, vo = .slice A 0 c := by
    obtain ⟨ps, _, _, ho⟩ := h.ptr
    exact own_slice ho
  dsimp only at hlr h
  have c0 : w.cell? ⟨b, 0, none⟩ = some (.slice Ar row.length cr) := cell_blk h.here 0 _ rfl
  have f0 := free_blk h.here 0
  have hbl := lt_of_heap h.here
  have HR := Aside0.mk h
  have HL := Aside0.mk hL
  have HN0 := Aside0.mk (rowF_ne h)
  clear h hL
  go_enter Tryd.func50, Tryd.ntmps50
  go_wp2
  go_cut [] (fun wx => Put1 w wx base b (.slice Ao 0 co) ⟨row, tops, []⟩ x)
  case first =>
    go_region_law
      ((refine append_drew k46 (w0 := w) base (by rfl) (.tmp 10) (.tmp 12) 39 46 (.agg #[(.int .u8 0), (.int .i64 0), (.int .i64 0), (.string ⟨#[]⟩), (.slice none 0 0)]) 64 (by rfl) Tryd.underlying39 info46 rfl (by decide) (by omega) (.slice Ar row.length cr) row x [.int .u8 x.f0, .int .i64 x.f1, .int .i64 x.f2, .string x.f3, vL] (fun k => fresh lab w.heap.size 1 k = 1) (fun k => fresh lab w.heap.size 1 k = 1 ∧ some k ≠ (Value.slice Ar row.length cr).ownBlock) (by rfl) (by rfl) (by simp) (by exact row_hp HL.out rfl) (fun _ hk => hk) (fun k hk => fresh_new _ _ _ _ (by simp at hk; omega)) (by exact row_ho HR.out.row rfl) (by exact ((below_alloc (Below.refl _ _) _).drew).mono hb) (by simp; omega) (by omega) ?_; intro v1 w1 ho1 hB1 hg1 hat1; obtain ⟨A1, d1, hv1⟩ := Kd.R_slice ho1; rw [List.length_append, List.length_singleton] at hv1; subst hv1; have HO1 := Aside0.mk ho1; have HB1 := Aside0.mk hB1; have HG1 := Aside0.mk hg1; have hz1 : b < w1.heap.size := (by have := hB1.size; omega); have fz1 := (World.frozen?_of_block (a := ⟨b, 0, none⟩) (hg1.block b (by simp; omega) HN0.out)).trans ((World.frozen?_of_block (a := ⟨b, 0, none⟩) (by exact push_old _ _ _ hbl)).trans f0); have cz1 := hg1.cell (a := ⟨b, 0, none⟩) ((World.cell?_of_block (a := ⟨b, 0, none⟩) (by exact push_old _ _ _ hbl)).trans c0) HN0.out; clear ho1 hB1 hg1 hat1))
    all_goals
      go_wp2_with fail
      go_meet
      case rel => exact ⟨_, _, _, putF_row HR.out HO1.out HB1.out HG1.out rfl⟩
  case rest =>
    obtain ⟨lab1, vr1, vt1, hR2, hB2⟩ := hcut
    obtain ⟨A1, d1, hv1⟩ := Kd.R_slice hR2.row
    rw [List.length_append, List.length_singleton] at hv1
    subst hv1
    obtain ⟨At, ct, rfl, hlt, -⟩ := Kd.R_reads hR2.tops
    dsimp only at hlt hR2
    have hlt2 := lt_of_heap hR2.here
    have hz3 : base ≤ wc.heap.size := by have := hB2.size; omega
    have r0 : wc.cell? ⟨b, 0, none⟩ = some (.slice A1 (row.length + 1) d1) := cell_blk hR2.here 0 _ rfl
    have r1 : wc.cell? ⟨b, 1, none⟩ = some (.slice At tops.length ct) := cell_blk hR2.here 1 _ rfl
    have r2 : wc.cell? ⟨b, 2, none⟩ = some (.slice Ao 0 co) := cell_blk hR2.here 2 _ rfl
    have f1 := free_blk hR2.here 1
    have HN1 := Aside0.mk (topF_ne hR2)
    have HR2 := Aside0.mk hR2
    have HB2 := Aside0.mk hB2
    have wn : IntKind.i64.wrap (row.length : Int) = (row.length : Int) := IntWalk.i64_in _ (by omega)
    clear hR2 hB2 c0 f0 HR HL HN0
    go_wp2_with ((with_reducible refine gate_builtin (b := .append) (xs := #[.tmp 32, .tmp 34]) rfl ?_); at_builtin; refine Kd.R_append (Kd.int .i64) (w0 := w) base rfl (.tmp 32) (.tmp 34) 40 3 (.int .i64 0) 8 rfl Tryd.underlying40 info3 rfl (by decide) (by decide) (.slice At tops.length ct) tops (row.length : Int) [.int .i64 row.length] (fun k => fresh lab1 wc.heap.size 2 k = 2) (fun _ => False) rfl rfl ?aP (fun _ hk => hk.elim) ?aF ?aO ?aB ?aS ?aL ?_; (case aP => rfl); (case aB => exact HB2.out); (case aF => exact fun k hk => fresh_new _ _ _ _ hk); (case aO => exact int_ho HR2.out.tops); (case aS => exact hz3); (case aL => omega); intro v3 w3 ho3 hB3 hg3 hat3; obtain ⟨A3, d3, hv3⟩ := Kd.R_slice ho3; rw [List.length_append, List.length_singleton] at hv3; subst hv3; have fz3 := (World.frozen?_of_block (a := ⟨b, 1, none⟩) (hg3.block b hlt2 HN1.out)).trans f1; have cz3 := hg3.cell (a := ⟨b, 1, none⟩) r1 HN1.out; have HO3 := Aside0.mk ho3; have HB3 := Aside0.mk hB3; have HG3 := Aside0.mk hg3; clear ho3 hB3 hg3 hat3)
    (try simp only [Exit.inBlock, Exit.then]); first | refine bodyPost_ret (results_none rfl _ _ _) rfl ?_ | refine bodyPost_end (results_none rfl _ _ _) rfl ?_
    exact ⟨rfl, ⟨_, _, _, _, putF_top HR2.out HO3.out HG3.out⟩, HB3.out.setCell (p := ⟨b, 1, none⟩) HR2.out.bb _⟩

theorem own_ne0 {w : World} {base g n : Nat} {lab : Nat → Nat} {v : Value} {l : List Int} (h : (Kd.int .i64).R 3 w base (fun k => lab k = 6 + n) v l) (hg : lab g = 0) : some g ≠ v.ownBlock := fun e => by
  have := h.1 g e.symm
  omega
def Put2 (w wx : World) (base b : Nat) (s : St) : Prop := RfE wx base b s ∧ Below base w wx
theorem own_ne6 {w : World} {base g n : Nat} {lab : Nat → Nat} {v : Value} {l : List Int} (h : (Kd.int .i64).R 3 w base (fun k => lab k = 6 + n) v l) (hg : lab g = 3) : some g ≠ v.ownBlock := fun e => by
  have := h.1 g e.symm
  omega
theorem put2_mk {w wc w4 : World} {base b g c : Nat} {lab : Nat → Nat} {vr vt vl v1 : Value} {row : List S46} {tops : List Int} {o : Opn} {os : List Opn} {xs : List Int} (h : Rf wc base b lab vr vt (.slice (some ⟨g, 0, none⟩) (os.length + 1) c) ⟨row, tops, o :: os⟩)
    (hp : ∃ vs, EachF wc base lab (vl :: vs) (o :: os) ∧ wc.ownsRow base 74 3 (.slice (some ⟨g, 0, none⟩) (os.length + 1) c) (os.length + 1) (cellsF (vl :: vs) (o :: os))) (hl : (Kd.int .i64).R 3 wc base (fun k => lab k = 6 + os.length) vl o.l)
    (hg : wc.drew.grownBy w4 vl.ownBlock) (hr : (Kd.int .i64).R 3 w4 base (fun k => fresh lab wc.heap.size (6 + os.length) k = 6 + os.length) v1 xs) (hB : Below base w w4) (hbg : base ≤ g) :
    Put2 w (w4.setCell ⟨g, os.length * 3 + 2, none⟩ v1) base b ⟨row, tops, ⟨o.p, o.q, xs⟩ :: os⟩ :=
  ⟨⟨_, _, _, _, h.grew hp (Chg.of_grown (w := wc) ⟨hg.os, hg.tape, hg.output, hg.size, hg.block⟩ (fun k hk => hl.1 k hk) rfl) hr⟩, hB.setCell (p := ⟨g, os.length * 3 + 2, none⟩) hbg _⟩
set_option maxHeartbeats 4000000 in
set_option maxRecDepth 100000 in
theorem putF_cons_aux (o : Opn) (os : List Opn) (w : World) (base b : Nat) (lab : Nat → Nat) (vr vt vo vL : Value) (row : List S46) (tops : List Int) (x : S46)
    (h : Rf w base b lab vr vt vo ⟨row, tops, o :: os⟩) (hL : (Kd.int .i64).R 3 w base (fun k => lab k = 1 ∧ some k ≠ vr.ownBlock) vL x.f4) (hb : base ≤ w.heap.size) (h1 : row.length ≤ 1000000) (hN : os.length ≤ 50) (h3 : o.l.length ≤ 1000000)
    (r : St) (hr : (o.q = true ∧ o.l.length = 1 → ∀ (W : World) (lab : Nat → Nat) (vr vt vo : Value), Rf W base b lab vr vt vo ⟨row ++ [x], tops, ⟨o.p, o.q, o.l ++ [(row.length : Int)]⟩ :: os⟩ → base ≤ W.heap.size → Calls Tryd.prog 51 #[.pointer (some ⟨b, 0, none⟩)] W (RetRf base b r W)) ∧
      (¬ (o.q = true ∧ o.l.length = 1) → r = ⟨row ++ [x], tops, ⟨o.p, o.q, o.l ++ [(row.length : Int)]⟩ :: os⟩)) :
    Calls Tryd.prog 50 #[.pointer (some ⟨b, 0, none⟩), .agg #[.int .u8 x.f0, .int .i64 x.f1, .int .i64 x.f2, .string x.f3, vL]] w (RetRf base b r w) := by
  obtain ⟨Ar, cr, rfl, hlr, -⟩ := Kd.R_reads h.row
  have Hr := Aside0.mk hr
  clear hr
  dsimp only at hlr h
  have c0 : w.cell? ⟨b, 0, none⟩ = some (.slice Ar row.length cr) := cell_blk h.here 0 _ rfl
  have f0 := free_blk h.here 0
  have hbl := lt_of_heap h.here
  have HR := Aside0.mk h
  have HL := Aside0.mk hL
  have HN0 := Aside0.mk (rowF_ne h)
  clear h hL
  go_enter Tryd.func50, Tryd.ntmps50
  go_wp2
  go_cut [] (fun wx => Put1 w wx base b vo ⟨row, tops, o :: os⟩ x)
  case first =>
    go_region_law
      ((refine append_drew k46 (w0 := w) base (by rfl) (.tmp 10) (.tmp 12) 39 46 (.agg #[(.int .u8 0), (.int .i64 0), (.int .i64 0), (.string ⟨#[]⟩), (.slice none 0 0)]) 64 (by rfl) Tryd.underlying39 info46 rfl (by decide) (by omega) (.slice Ar row.length cr) row x [.int .u8 x.f0, .int .i64 x.f1, .int .i64 x.f2, .string x.f3, vL] (fun k => fresh lab w.heap.size 1 k = 1) (fun k => fresh lab w.heap.size 1 k = 1 ∧ some k ≠ (Value.slice Ar row.length cr).ownBlock) (by rfl) (by rfl) (by simp) (by exact row_hp HL.out rfl) (fun _ hk => hk) (fun k hk => fresh_new _ _ _ _ (by simp at hk; omega)) (by exact row_ho HR.out.row rfl) (by exact ((below_alloc (Below.refl _ _) _).drew).mono hb) (by simp; omega) (by omega) ?_; intro v1 w1 ho1 hB1 hg1 hat1; obtain ⟨A1, d1, hv1⟩ := Kd.R_slice ho1; rw [List.length_append, List.length_singleton] at hv1; subst hv1; have HO1 := Aside0.mk ho1; have HB1 := Aside0.mk hB1; have HG1 := Aside0.mk hg1; have hz1 : b < w1.heap.size := (by have := hB1.size; omega); have fz1 := (World.frozen?_of_block (a := ⟨b, 0, none⟩) (hg1.block b (by simp; omega) HN0.out)).trans ((World.frozen?_of_block (a := ⟨b, 0, none⟩) (by exact push_old _ _ _ hbl)).trans f0); have cz1 := hg1.cell (a := ⟨b, 0, none⟩) ((World.cell?_of_block (a := ⟨b, 0, none⟩) (by exact push_old _ _ _ hbl)).trans c0) HN0.out; clear ho1 hB1 hg1 hat1))
    all_goals
      go_wp2_with fail
      go_meet
      case rel => exact ⟨_, _, _, putF_row HR.out HO1.out HB1.out HG1.out rfl⟩
  case rest =>
    obtain ⟨lab1, vr1, vt1, hR2, hB2⟩ := hcut
    obtain ⟨A1, d1, hv1⟩ := Kd.R_slice hR2.row
    rw [List.length_append, List.length_singleton] at hv1
    subst hv1
    dsimp only at hR2
    obtain ⟨g, c, Al, cl, vs, rfl, hcn, hE, hown, t0, t1, t2, fg, hbg, -, hbase, hlg, hglt⟩ := hR2.top
    have hz3 : base ≤ wc.heap.size := by have := hB2.size; omega
    have r0 : wc.cell? ⟨b, 0, none⟩ = some (.slice A1 (row.length + 1) d1) := cell_blk hR2.here 0 _ rfl
    have r2 : wc.cell? ⟨b, 2, none⟩ = some (.slice (some ⟨g, 0, none⟩) (os.length + 1) c) := cell_blk hR2.here 2 _ rfl
    have fg2 := fg (os.length * 3 + 2)
    have HN := Aside0.mk (own_ne6 hE.1 hlg)
    have HNb := Aside0.mk (own_ne0 hE.1 hR2.lb)
    have hlt2 := lt_of_heap hR2.here
    have HP := Aside0.mk (show ∃ vs, EachF wc base lab1 (.slice Al o.l.length cl :: vs) (o :: os) ∧ wc.ownsRow base 74 3 (.slice (some ⟨g, 0, none⟩) (os.length + 1) c) (os.length + 1) (cellsF (.slice Al o.l.length cl :: vs) (o :: os)) from ⟨vs, hE, hown⟩)
    have HE := Aside0.mk hE.1
    have HR2 := Aside0.mk hR2
    have HB2 := Aside0.mk hB2
    have HBG := Aside0.mk hbg
    have wn : IntKind.i64.wrap (row.length : Int) = (row.length : Int) := IntWalk.i64_in _ (by omega)
    have wo : IntKind.i64.wrap (os.length : Int) = (os.length : Int) := IntWalk.i64_in _ (by omega)
    have n0 : (0 : Int) ≤ (os.length : Int) := by omega
    have n1 : (os.length : Int) < (os.length : Int) + 1 := by omega
    clear hR2 hB2 c0 f0 HR HL HN0 hE hown fg hbg
    go_wp2
    go_cut [] (fun wx => Put2 w wx base b ⟨row ++ [x], tops, ⟨o.p, o.q, o.l ++ [(row.length : Int)]⟩ :: os⟩)
    case first =>
      go_region_law
        ((refine append_drew (Kd.int .i64) (w0 := w) base (by rfl) (.tmp 56) (.tmp 58) 40 3 (.int .i64 0) 8 (by rfl) Tryd.underlying40 info3 rfl (by decide) (by decide) (.slice Al o.l.length cl) o.l (row.length : Int) [.int .i64 row.length] (fun k => fresh lab1 wc.heap.size (6 + os.length) k = 6 + os.length) (fun _ => False) (by rfl) (by rfl) (by simp) (by rfl) (fun _ hk => hk.elim) (fun k hk => fresh_new _ _ _ _ hk) (by exact Kd.R_move (int_ho HE.out) (fun _ _ => rfl)) (by exact HB2.out.drew) (by exact hz3) (by omega) ?_; intro v4 w4 ho4 hB4 hg4 hat4; obtain ⟨A4, d4, hv4⟩ := Kd.R_slice ho4; rw [List.length_append, List.length_singleton] at hv4; subst hv4; have HO4 := Aside0.mk ho4; have HB4 := Aside0.mk hB4; have HG4 := Aside0.mk hg4; have g2 := (World.frozen?_of_block (a := ⟨g, os.length * 3 + 2, none⟩) (hg4.block g hglt HN.out)).trans fg2; have s2 := hg4.cell (a := ⟨g, os.length * 3 + 2, none⟩) t2 HN.out; have s3 := hg4.cell (a := ⟨b, 2, none⟩) r2 HNb.out; have hz4 : g < w4.heap.size := (by have := hg4.size; exact Nat.lt_of_lt_of_le hglt this); clear ho4 hB4 hg4 hat4))
      all_goals
        go_wp2_with fail
        go_meet
        case rel => exact put2_mk HR2.out HP.out HE.out HG4.out HO4.out HB4.out hbase
    case rest =>
      clear r0 r2 t0 t1 t2 fg2 HN HNb hlt2 HP HE HR2 HB2 HBG hz3 hbase hlg hglt
      obtain ⟨⟨lab5, vr5, vt5, vo5, hR5⟩, hB5⟩ := hcut
      obtain ⟨g5, c5, A5, cl5, vs5, rfl, hcn5, -, -, -, u1, u2, -, -, -, -, -, -⟩ := hR5.top
      dsimp only at u1 u2
      rw [List.length_append, List.length_singleton] at u2
      have v2 := cell_blk hR5.here 2 _ rfl
      have hz5 := hB5.size
      have HR5 := Aside0.mk hR5
      have HB5 := Aside0.mk hB5
      clear hR5 hB5
      go_wp2_with fail
      · have hq1 : o.q = true := by assumption
        have hq2 : o.l.length = 1 := by
          have h2 : ((o.l.length : Int) + 1 == 2) = true := by assumption
          rw [beq_iff_eq] at h2
          omega
        have hq := And.intro hq1 hq2
        clear hq1 hq2
        refine (Hr.out.1 hq _ lab5 _ _ _ HR5.out (by omega)).mono ?_
        rintro e w' ⟨rfl, hE, hB⟩
        have HE := Aside0.mk hE
        have HB := Aside0.mk hB
        clear hE hB hq
        go_wp2
        (try simp only [Exit.inBlock, Exit.then]); first | refine bodyPost_ret (results_none rfl _ _ _) rfl ?_ | refine bodyPost_end (results_none rfl _ _ _) rfl ?_
        exact ⟨rfl, HE.out, HB5.out.trans HB.out⟩
      · have hq : ¬ (o.q = true ∧ o.l.length = 1) := fun hq => by
          have h2 : ((o.l.length : Int) + 1 == 2) = false := by assumption
          rw [hq.2] at h2
          exact absurd h2 (by decide)
        rw [Hr.out.2 hq]
        (try simp only [Exit.inBlock, Exit.then]); first | refine bodyPost_ret (results_none rfl _ _ _) rfl ?_ | refine bodyPost_end (results_none rfl _ _ _) rfl ?_
        exact ⟨rfl, ⟨_, _, _, _, HR5.out⟩, HB5.out⟩
      · have hq : ¬ (o.q = true ∧ o.l.length = 1) := fun hq => by
          have h2 : ¬ o.q = true := by assumption
          exact h2 hq.1
        rw [Hr.out.2 hq]
        (try simp only [Exit.inBlock, Exit.then]); first | refine bodyPost_ret (results_none rfl _ _ _) rfl ?_ | refine bodyPost_end (results_none rfl _ _ _) rfl ?_
        exact ⟨rfl, ⟨_, _, _, _, HR5.out⟩, HB5.out⟩
end Go.Proofs.YthempkdgmobocaaDoorE
end
section
/- The walk of the reference's reader: close. -/
namespace Go.Proofs.YthempkdgmobocaaDoorE
open Go Go.RowKit Go.Proofs.YthempkdgmobocaaDoorEd Go.Proofs.YthempkdgmobocaaDoor.L Go.Proofs.YthempkdgmobocaaDoor.N Go.Proofs.YthempkdgmobocaaDoorM
open Go.Proofs.YthempkdgmobocaaDoorW.PrintWords Go.Proofs.YthempkdgmobocaaDoorW.PrintLast Go.Proofs.YthempkdgmobocaaDoorW.PrintMore
attribute [local go_sem ↓] Go.wp_at_zero Go.wp_at_succ

theorem info74 : (Tryd.prog.info? 74).map (fun i => (i.zero, i.size, i.bytes)) = some (some (.agg #[(.int .i64 0), (.bool false), (.slice none 0 0)]), 3, 40) := by kernel_rfl
def PutF (os : List Opn) : Prop := ∀ (w : World) (base b : Nat) (lab : Nat → Nat) (vr vt vo vL : Value) (row : List S46) (tops : List Int) (x : S46) (N : Nat),
    Rf w base b lab vr vt vo ⟨row, tops, os⟩ → (Kd.int .i64).R 3 w base (fun k => lab k = 4) vL x.f4 → base ≤ w.heap.size → N + os.length ≤ 1000000 → os.length ≤ 51 → row.length ≤ N → tops.length ≤ N → (∀ o ∈ os, o.l.length ≤ N) →
    Calls Tryd.prog 50 #[.pointer (some ⟨b, 0, none⟩), .agg #[.int .u8 x.f0, .int .i64 x.f1, .int .i64 x.f2, .string x.f3, vL]] w (RetRf base b (put os row tops x) w)
theorem labF4 {w : World} {base b : Nat} {lab : Nat → Nat} {vr vt vo vL : Value} {s : St} {l : List Int} (h : Rf w base b lab vr vt vo s) (hL : (Kd.int .i64).R 3 w base (fun k => lab k = 4) vL l) :
    ∃ lab', Rf w base b lab' vr vt vo s ∧ (Kd.int .i64).R 3 w base (fun k => lab' k = 1 ∧ some k ≠ vr.ownBlock) vL l := by
  have hz : ∀ k, lab k ≠ 4 → (if lab k = 4 then 1 else lab k) = lab k := fun k hk => if_neg hk
  obtain ⟨ps, he, hp, ho⟩ := h.ptr
  have h0 := h.lb
  refine ⟨fun k => if lab k = 4 then 1 else lab k, ⟨h.here, h.bb, (hz b (by omega)).trans h0, R_lab h.row (fun k _ hl => ⟨rfl, (hz k (by omega)).trans hl⟩), R_lab h.tops (fun k _ hl => ⟨rfl, (hz k (by omega)).trans hl⟩), ps, he.step (fun k _ h1 _ => ⟨rfl, hz k (by omega)⟩), fun k hk => (hz k (by have := hp k hk; omega)).trans (hp k hk), ho⟩, Kd.R_mono hL (fun k hk => ⟨if_pos hk, fun e => ?_⟩)⟩
  have := h.row.1 k e.symm
  omega
section
variable {P : Program} {ops : Array Oper} {o : Oper} {a : Act} {Q : Exit → Act → World → Prop} {K : Act → World → Prop}
/-- append(v, ys...), ys cells that lie somewhere, as a step of a region that draws. -/
theorem step_append_rows {w0 W : World} (base : Nat) (hw : Region.wanted o (yielded ops a.tmps) = true) (s x : Operand) (t e : TypeId) (z : Value) (size bytes : Nat)
    (ho : o.op = .call { callee := .builtin .append, args := #[s, x], argTypes := #[t, t] })
    (ht : P.underlying t = some (.slice e)) (hinfo : (P.info? e).map (fun i => (i.zero, i.size, i.bytes)) = some (some z, size, bytes)) (hz : z.cells.size = size) (hs0 : 0 < size) (hb0 : 0 < bytes)
    (v : Value) (n : Nat) (xs ys : List Value) (ad : Addr) (m c : Nat) (hs : a.eval s = v) (hx : a.eval x = .slice (some ad) m c) (hys : ys.length = m * size) (hc : ∀ j u, ys[j]? = some u → W.cell? (ad.add j) = some u) (h1 : ∀ u ∈ ys, u.oneCell' = true)
    (HO : W.ownsRow base e size v n xs) (HB : Below base w0 W) (hbase : base ≤ W.heap.size) (hl : (n + m) * bytes ≤ 140737488355328)
    (h : ∀ v1 w1, w1.ownsRow base e size v1 (n + m) (xs ++ ys) → Below base w0 w1 → W.grownBy w1 v.ownBlock → (v1.ownBlock = v.ownBlock ∨ v1.ownBlock = some W.heap.size) → K (a.put o.dst v1) w1) :
    if Region.wanted o (yielded ops a.tmps) = true then Oper.wp P o a W K Q else K (a.put o.dst undef) W := by
  obtain ⟨i0, hi, hzz⟩ := Option.map_eq_some_iff.1 hinfo
  simp only [Prod.mk.injEq] at hzz
  obtain ⟨hz0, hz1, hz2⟩ := hzz
  have hlen : n + m ≤ 140737488355328 := Nat.le_trans (Nat.le_mul_of_pos_right _ hb0) hl
  rw [if_pos hw]
  obtain ⟨v1, w1, hr, hown, hg, _, hat⟩ := run_append_own_at (P := P) W base t o.type e i0 z size bytes ht hi hz0 hz1 hz2 hz hs0 v n xs HO ad m c ys hys hc h1 (by simp only [maxLen]; omega) hl hbase
  unfold Oper.wp execOp
  simp only [ho, resolve, invoke, builtin, Sem.run_bind, Sem.run_pure, Result.andThen_ok, List.map_toArray, List.map_cons, List.map_nil, hs, hx, hr]
  exact h v1 w1 hown (HB.grown hg hbase (own_base HO)) hg hat
end
theorem cl_cells {wc W : World} {g : Nat} {l : List Value} {ob : Obj} (h : ∀ j u, l[j]? = some u → wc.cell? ⟨g, j, none⟩ = some u) (hg : g < wc.heap.size) (hW : W.heap = wc.heap.push ob := by rfl) : ∀ j u, l[j]? = some u → W.cell? ((⟨g, 0, none⟩ : Addr).add j) = some u := fun j u hj => by
  rw [add_plain]
  exact (World.cell?_of_block (a := ⟨g, j, none⟩) (by rw [hW]; exact push_old _ _ _ hg)).trans (h j u hj)
theorem cl_own {wc W : World} {base : Nat} (hb : base ≤ wc.heap.size) (hW : W.heap = wc.heap.push (.cells #[] 74 (0, 0)) := by rfl) : W.ownsRow base 74 3 (.slice (some ⟨wc.heap.size, 0, none⟩) 0 0) 0 [] :=
  own_move (w := wc.alloc (.cells #[] 74 (0, 0))) (World.ownsRow_made wc #[] 0 hb (by simp [maxLen]) (by simp)) (fun k _ => by rw [hW]; rfl)
theorem below_allocF {n : Nat} {w : World} {o : Obj} (h : n ≤ w.heap.size) : Below n w (w.alloc o) := (Below.refl _ _).alloc h _
/-- behind the first step of close. -/
def Cl1 (w wx : World) (base : Nat) (o : Opn) (vl : Value) (p : Value) : Prop := p = .pointer (some ⟨w.heap.size, 0, none⟩) ∧ wx.heap = w.heap.push (.cells #[.int .i64 o.p, .bool o.q, vl] 74) ∧ Below base w wx

/-- behind the second. -/
def Cl2 (w wx : World) (base b : Nat) (vr vt vl : Value) (row : List S46) (tops : List Int) (o : Opn) (os : List Opn) : Prop :=
  (∃ lab2 v1, Rf wx base b lab2 vr vt v1 ⟨row, tops, os⟩ ∧ (Kd.int .i64).R 3 wx base (fun k => lab2 k = 4) vl o.l) ∧ wx.heap[w.heap.size]? = some (.cells #[.int .i64 o.p, .bool o.q, vl] 74 (0, 0)) ∧ Below base w wx
theorem cl2_mk {w wc W w1 : World} {base b : Nat} {lab : Nat → Nat} {vr vt vo vl v1 : Value} {row : List S46} {tops : List Int} {o : Opn} {os : List Opn} {vs : List Value} {bx : Obj} (h : Rf w base b lab vr vt vo ⟨row, tops, o :: os⟩) (hE : EachF w base lab (vl :: vs) (o :: os))
    (hbx : bx = .cells #[.int .i64 o.p, .bool o.q, vl] 74 (0, 0)) (h1 : wc.heap = w.heap.push bx) (hW : W.heap = wc.heap.push (.cells #[] 74 (0, 0))) (ho : w1.ownsRow base 74 3 v1 os.length (cellsF vs os)) (hg : W.grownBy w1 (some wc.heap.size))
    (hat : v1.ownBlock = some wc.heap.size ∨ v1.ownBlock = some W.heap.size) (hB : Below base w w1) : Cl2 w (w1.setCell ⟨b, 2, none⟩ v1) base b vr vt vl row tops o os := by
  have z1 : wc.heap.size = w.heap.size + 1 := by rw [h1]; simp
  have z2 : W.heap.size = w.heap.size + 2 := by rw [hW]; simp [z1]
  have old : ∀ k, k < w.heap.size + 1 → w1.heap[k]? = wc.heap[k]? := fun k hk => (hg.block k (by omega) (fun e => by injection e with e; omega)).trans (by rw [hW]; exact push_old _ _ _ (by omega))
  have hC : Chg w w1 lab (fresh lab w.heap.size 3) 3 := ⟨fun k hk _ => (old k (by omega)).trans (by rw [h1]; exact push_old _ _ _ hk), fun k hk => fresh_old _ _ _ _ hk⟩
  have hb := lt_of_heap h.here
  refine ⟨?_, ?_, hB.setCell (p := ⟨b, 2, none⟩) h.bb _⟩
  · obtain ⟨lab2, h2, h3⟩ := h.popped hE hC (fun k hk => fresh_new _ _ _ _ (by
      rcases hat with e | e
      · rw [e] at hk; injection hk with hk; omega
      · rw [e] at hk; injection hk with hk; omega)) ho
    exact ⟨lab2, v1, h2, h3⟩
  · rw [heap_set_other w1 b 2 _ v1 (by omega), old _ (by omega), h1, hbx]
    simp

set_option maxHeartbeats 4000000 in
set_option maxRecDepth 100000 in
theorem closeF_calls (os : List Opn) (hP : PutF os) (w : World) (base b : Nat) (lab : Nat → Nat) (vr vt vo : Value) (row : List S46) (tops : List Int) (o : Opn) (N : Nat)
    (h : Rf w base b lab vr vt vo ⟨row, tops, o :: os⟩) (hb : base ≤ w.heap.size) (hN : N + os.length ≤ 1000000) (hn : os.length ≤ 50) (h1 : row.length ≤ N) (h2 : tops.length ≤ N) (h3 : ∀ o ∈ os, o.l.length ≤ N) :
    Calls Tryd.prog 51 #[.pointer (some ⟨b, 0, none⟩)] w (RetRf base b (put os row tops ⟨4, o.p, 0, noS, o.l⟩) w) := by
  obtain ⟨g, c, Al, cl, vs, rfl, hcn, hE, hown, t0, t1, t2, fg, hbg, hcell, hbase, hlg, hglt⟩ := h.top
  have r2 : w.cell? ⟨b, 2, none⟩ = some (.slice (some ⟨g, 0, none⟩) (os.length + 1) c) := cell_blk h.here 2 _ rfl
  have f2 := free_blk h.here 2
  have hbl := lt_of_heap h.here
  have HR := Aside0.mk h
  have HE := Aside0.mk hE
  have HO := Aside0.mk hown
  have HC := Aside0.mk hcell
  have HF := Aside0.mk fg
  have HBG := Aside0.mk hbg
  have n0 : (0 : Int) ≤ (os.length : Int) := by omega
  have n1 : (os.length : Int) < (os.length : Int) + 1 := by omega
  have n2 : (os.length : Int) ≤ (c : Int) := by omega
  have wn : IntKind.i64.wrap (os.length : Int) = (os.length : Int) := IntWalk.i64_in _ (by omega)
  clear h hE hown hcell fg hbg
  go_enter Tryd.func51, Tryd.ntmps51
  go_wp2_with fail
  go_cut [2] (fun p wx => Cl1 w wx base o (.slice Al o.l.length cl) p)
  case first =>
    have x1 := World.new_ne w _ r2
    have x2 := World.new_ne w _ t0
    have x3 := World.new_ne w _ t1
    have x4 := World.new_ne w _ t2
    go_region_held3 (fun w' => w'.cell? ⟨b, 2, none⟩ = some (.slice (some ⟨g, 0, none⟩) (os.length + 1) c) ∧ w'.cell? ⟨g, os.length * 3, none⟩ = some (.int .i64 o.p) ∧ w'.cell? ⟨g, os.length * 3 + 1, none⟩ = some (.bool o.q) ∧ w'.cell? ⟨g, os.length * 3 + 2, none⟩ = some (.slice Al o.l.length cl)) (go_keep) (fail)
    all_goals
      go_wp2_with fail
      go_meet
      case rel => exact ⟨rfl, rfl, (below_allocF hb).drew⟩
  case rest =>
    obtain ⟨rfl, hh, hB⟩ := hcut
    have r2 : wc.cell? ⟨b, 2, none⟩ = some (.slice (some ⟨g, 0, none⟩) (os.length + 1) c) := (World.cell?_of_block (a := ⟨b, 2, none⟩) (by rw [hh]; exact push_old _ _ _ hbl)).trans r2
    have f2 : wc.frozen? ⟨b, 2, none⟩ = false := (World.frozen?_of_block (a := ⟨b, 2, none⟩) (by rw [hh]; exact push_old _ _ _ hbl)).trans f2
    have hblc : b < wc.heap.size := by rw [hh]; simp; omega
    have hbc : base ≤ wc.heap.size := by rw [hh]; simp; omega
    have HC1 := Aside0.mk (show ∀ j u, (cellsF vs os)[j]? = some u → wc.cell? ⟨g, j, none⟩ = some u from fun j u hj => (World.cell?_of_block (a := ⟨g, j, none⟩) (by rw [hh]; exact push_old _ _ _ hglt)).trans (HC.out j u hj))
    have hgc : g < wc.heap.size := by rw [hh]; simp; omega
    have HH := Aside0.mk hh
    have HB := Aside0.mk hB
    clear hh hB t0 t1 t2 HC
    have hlen := cellsF_len HE.out.2
    have HLn := Aside0.mk hlen
    have HNe := Aside0.mk (show some b ≠ (Value.slice (some ⟨wc.heap.size, 0, none⟩) 0 0).ownBlock from fun e => by simp [Value.ownBlock] at e; omega)
    clear hlen
    go_wp2_with fail
    go_cut [] (fun wx => Cl2 w wx base b vr vt (.slice Al o.l.length cl) row tops o os)
    case first =>
      go_region_law
        ((refine step_append_rows (w0 := w) base (by rfl) (.tmp 16) (.tmp 27) 70 74 (.agg #[(.int .i64 0), (.bool false), (.slice none 0 0)]) 3 40 (by rfl) Tryd.underlying70 info74 rfl (by decide) (by decide) (.slice (some ⟨wc.heap.size, 0, none⟩) 0 0) 0 [] (cellsF vs os) ⟨g, 0, none⟩ os.length c (by rfl) (by rfl) HLn.out (by exact cl_cells HC1.out hgc) (cellsF_one HE.out.2) (by exact cl_own hbc) (by exact (HB.out.alloc hbc _).drew) (by simp; omega) (by omega) ?_; intro v1 w1 ho1 hB1 hg1 hat1; rw [Nat.zero_add, List.nil_append] at ho1; obtain ⟨A1, d1, rfl⟩ := own_slice ho1; have HO1 := Aside0.mk ho1; have HB1 := Aside0.mk hB1; have HG1 := Aside0.mk hg1; have HA1 := Aside0.mk hat1; have g2 := (World.frozen?_of_block (a := ⟨b, 2, none⟩) (hg1.block b (by simp; omega) HNe.out)).trans ((World.frozen?_of_block (a := ⟨b, 2, none⟩) (by exact push_old _ _ _ hblc)).trans f2); have s2 := hg1.cell (a := ⟨b, 2, none⟩) ((World.cell?_of_block (a := ⟨b, 2, none⟩) (by exact push_old _ _ _ hblc)).trans r2) HNe.out; have hz1 : b < w1.heap.size := (by have := hg1.size; simp at this; omega); clear ho1 hB1 hg1 hat1))
      all_goals
        go_wp2_with fail
        go_meet
        case rel => exact cl2_mk HR.out HE.out rfl HH.out rfl HO1.out HG1.out HA1.out HB1.out
    case rest =>
      obtain ⟨⟨lab2, v1, hR2, hL2⟩, hbx, hB2⟩ := hcut
      have p0 := cell_blk hbx 0 _ rfl
      have p2 := cell_blk hbx 2 _ rfl
      have hz2 := hB2.size
      have hC := Lib.hid (hP _ base b lab2 vr vt v1 (.slice Al o.l.length cl) row tops ⟨4, o.p, 0, noS, o.l⟩ N hR2 hL2 (by omega) hN (by omega) h1 h2 h3)
      have HB2 := Aside0.mk hB2
      clear hR2 hL2 hbx hB2 h3 r2 f2 HC1 HNe HR HE HO HF HBG
      unfold noS at hC
      go_wp2_with (go_at_call 50; refine hC.out.mono ?_; rintro e w' ⟨rfl, hE, hB3⟩; have HE := Aside0.mk hE; have HB3 := Aside0.mk hB3; clear hE hB3)
      (try simp only [Exit.inBlock, Exit.then]); first | refine bodyPost_ret (results_none rfl _ _ _) rfl ?_ | refine bodyPost_end (results_none rfl _ _ _) rfl ?_
      exact ⟨rfl, HE.out, HB2.out.trans HB3.out⟩
theorem putF_calls (os : List Opn) : PutF os := by
  induction os with
  | nil =>
    intro w base b lab vr vt vo vL row tops x N h hL hb hN hn h1 h2 h3
    obtain ⟨lab', h', hL'⟩ := labF4 h hL
    exact putF_nil w base b lab' vr vt vo vL row tops x h' hL' hb (by omega) (by omega)
  | cons o os ih =>
    intro w base b lab vr vt vo vL row tops x N h hL hb hN hn h1 h2 h3
    obtain ⟨lab', h', hL'⟩ := labF4 h hL
    have h3o := h3 o (List.mem_cons_self ..)
    simp only [List.length_cons] at hN hn
    refine putF_cons_aux o os w base b lab' vr vt vo vL row tops x h' hL' hb (by omega) (by omega) (by omega) _ ⟨fun hq W lab vr vt vo hR hbW => ?_, fun hq => ?_⟩
    · have e : put (o :: os) row tops x = put os (row ++ [x]) tops ⟨4, o.p, 0, noS, o.l ++ [(row.length : Int)]⟩ := by rw [put, if_pos hq]
      rw [e]
      exact closeF_calls os ih W base b lab vr vt vo (row ++ [x]) tops ⟨o.p, o.q, o.l ++ [(row.length : Int)]⟩ (N + 1) hR hbW (by omega) (by omega) (by simp; omega) (by omega) (fun o' h' => Nat.le_trans (h3 o' (List.mem_cons_of_mem _ h')) (by omega))
    · rw [put, if_neg hq]
end Go.Proofs.YthempkdgmobocaaDoorE
end
