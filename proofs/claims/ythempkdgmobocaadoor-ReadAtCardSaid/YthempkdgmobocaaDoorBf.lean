/- Texts of this claim, one behind the other: Eh, Ei, Ej, Ek. -/
import Derived.Test.YthempkdgmobocaaDoorBe
import Derived.Test.YthempkdgmobocaaDoorBd
import Derived.Test.YthempkdgmobocaaDoorBc
section
/- The walk of the reference's reader: token. -/
namespace Go.Proofs.YthempkdgmobocaaDoorE
open Go Go.RowKit Go.Proofs.YthempkdgmobocaaDoorEd Go.Proofs.YthempkdgmobocaaDoor.L Go.Proofs.YthempkdgmobocaaDoor.N Go.Proofs.YthempkdgmobocaaDoorM
open Go.Proofs.YthempkdgmobocaaDoorW.PrintWords Go.Proofs.YthempkdgmobocaaDoorW.PrintLast Go.Proofs.YthempkdgmobocaaDoorW.PrintMore
attribute [local go_sem ↓] Go.wp_at_zero Go.wp_at_succ

def RetTf (base b : Nat) (r : St × Int) (w : World) (e : Ending) (w' : World) : Prop := e = .returned (.int .i64 r.2) ∧ RfE w' base b r.1 ∧ Below base w w'
theorem putF_at {w W : World} {base b : Nat} {lab : Nat → Nat} {vr vt vo : Value} {s : St} {N : Nat} (h : Rf w base b lab vr vt vo s) (hs : Small N s) (hN : N + s.ops.length ≤ 1000000) (hn : s.ops.length ≤ 51) (hb : base ≤ w.heap.size) (hh : W.heap = w.heap) (x : S46) (hx : x.f4 = []) :
    Calls Tryd.prog 50 #[.pointer (some ⟨b, 0, none⟩), .agg #[.int .u8 x.f0, .int .i64 x.f1, .int .i64 x.f2, .string x.f3, .slice none 0 0]] W (RetRf base b (s.add x) W) :=
  putF_calls s.ops W base b lab vr vt vo (.slice none 0 0) s.row s.tops x N (h.same hh) (by rw [hx]; exact Kd.R_nil _ _ _ _ _) (by rw [hh]; exact hb) hN hn hs.row hs.tops hs.ops

def topQ (s : St) : Bool := match s.ops with | [] => false | o :: _ => o.q
/-- behind the first test: is a quote what was opened last? -/
def Tk1 (w wx : World) (base : Nat) (s : St) (bx : Obj) (q : Value) : Prop := q = .bool (topQ s) ∧ wx.heap = w.heap.push bx ∧ Below base w wx
theorem tk1_mk {w : World} {base : Nat} {s : St} {bx : Obj} {q : Bool} (hb : base ≤ w.heap.size) (hq : topQ s = q) (k : Nat) : Tk1 w ((w.alloc bx).drewN k) base s bx (.bool q) :=
  ⟨by rw [hq], rfl, pw_below_drewN (below_allocF hb) _⟩
theorem Rf.ways {w : World} {base b : Nat} {lab : Nat → Nat} {vr vt vo : Value} {s : St} (h : Rf w base b lab vr vt vo s) :
    (s.ops = [] ∧ topQ s = false ∧ ∃ A c, w.cell? ⟨b, 2, none⟩ = some (.slice A 0 c)) ∨ (∃ n g c q, s.ops.length = n + 1 ∧ topQ s = q ∧ w.cell? ⟨b, 2, none⟩ = some (.slice (some ⟨g, 0, none⟩) (n + 1) c) ∧ w.cell? ⟨g, n * 3 + 1, none⟩ = some (.bool q) ∧ g < w.heap.size) := by
  obtain ⟨row, tops, ops⟩ := s
  cases ops with
  | nil =>
    obtain ⟨ps, _, _, ho⟩ := h.ptr
    obtain ⟨A, c, rfl⟩ := own_slice ho
    exact .inl ⟨rfl, rfl, A, c, cell_blk h.here 2 _ rfl⟩
  | cons o os =>
    obtain ⟨g, c, Al, cl, vs, rfl, hcn, hE, hown, t0, t1, t2, fg, hbg, hcell, hbase, hlg, hglt⟩ := h.top
    exact .inr ⟨os.length, g, c, o.q, by simp, rfl, cell_blk h.here 2 _ rfl, t1, hglt⟩
set_option maxHeartbeats 4000000 in
set_option maxRecDepth 100000 in
theorem tokF_4 (w : World) (base b : Nat) (lab : Nat → Nat) (vr vt vo : Value) (s : St) (p n : Int) (nm : ByteArray) (N : Nat) (h : Rf w base b lab vr vt vo s) (hs : Small N s) (hN : N + s.ops.length ≤ 1000000) (hn : s.ops.length ≤ 50) (hb : base ≤ w.heap.size) :
    Calls Tryd.prog 38 #[.pointer (some ⟨b, 0, none⟩), .agg #[.int .u8 4, .int .i64 p, .int .i64 n, .string nm]] w (RetTf base b (tok s ⟨4, p, n, nm⟩) w) := by
  have hr := h.relab (w1 := w.alloc (.cells #[.int .u8 4, .int .i64 p, .int .i64 n, .string nm] 30)) (lab' := lab) (fun j hj => push_old w _ j hj) (fun _ _ => rfl)
  have hb2 : base ≤ (w.alloc (.cells #[.int .u8 4, .int .i64 p, .int .i64 n, .string nm] 30)).heap.size := by simp; omega
  have hbl := lt_of_heap h.here
  have K := Aside0.mk (fun (W : World) (hW : W.heap = w.heap.push (.cells #[.int .u8 4, .int .i64 p, .int .i64 n, .string nm] 30)) => putF_at hr hs hN (by omega) hb2 hW ⟨1, p, n, ⟨#[]⟩, []⟩ rfl)
  have HW := Aside0.mk h.ways
  clear h hr hs hb2
  go_enter Tryd.func38, Tryd.ntmps38
  go_wp2
  go_cut [5] (fun q wx => Tk1 w wx base s (.cells #[.int .u8 4, .int .i64 p, .int .i64 n, .string nm] 30) q)
  case first =>
    rcases HW.out with ⟨h0, hq, Ao, co, r2⟩ | ⟨m, g, c, q, h0, hq, r2, t1, hg⟩
    · have HQ := Aside0.mk hq
      clear h0 hq
      go_quiet (fail)
      go_wp2_with fail
      go_meet
      case rel => exact tk1_mk hb HQ.out _
    · have HQ := Aside0.mk hq
      have n0 : (0 : Int) ≤ (m : Int) := by omega
      have n1 : (m : Int) < (m : Int) + 1 := by omega
      have n2 : (0 : Int) < (m : Int) + 1 := by omega
      have wm : IntKind.i64.wrap (m : Int) = (m : Int) := IntWalk.i64_in _ (by omega)
      have d0 : decide ((0 : Int) < (m : Int) + 1) = true := decide_eq_true n2
      clear h0 hq
      go_quiet (fail)
      go_wp2_with fail
      go_meet
      case rel => exact tk1_mk hb HQ.out _
  case rest =>
    obtain ⟨rfl, hh, hB⟩ := hcut
    have b0 := box_cells hh 0 _ rfl
    have b1 := box_cells hh 1 _ rfl
    have b2 := box_cells hh 2 _ rfl
    have HH := Aside0.mk hh
    have HB := Aside0.mk hB
    clear hh hB HW
    go_wp2_with (go_at_call 50; refine (K.out _ HH.out).mono ?_; rintro e w4 ⟨rfl, hE, hB4⟩; have HE := Aside0.mk hE; have HB4 := Aside0.mk hB4; clear hE hB4)
    go_ret
    exact ⟨rfl, HE.out, HB.out.trans HB4.out⟩
set_option maxHeartbeats 4000000 in
set_option maxRecDepth 100000 in
theorem tokF_5 (w : World) (base b : Nat) (lab : Nat → Nat) (vr vt vo : Value) (s : St) (p n : Int) (nm : ByteArray) (N : Nat) (h : Rf w base b lab vr vt vo s) (hs : Small N s) (hN : N + s.ops.length ≤ 1000000) (hn : s.ops.length ≤ 50) (hb : base ≤ w.heap.size) :
    Calls Tryd.prog 38 #[.pointer (some ⟨b, 0, none⟩), .agg #[.int .u8 5, .int .i64 p, .int .i64 n, .string nm]] w (RetTf base b (tok s ⟨5, p, n, nm⟩) w) := by
  have hr := h.relab (w1 := w.alloc (.cells #[.int .u8 5, .int .i64 p, .int .i64 n, .string nm] 30)) (lab' := lab) (fun j hj => push_old w _ j hj) (fun _ _ => rfl)
  have hb2 : base ≤ (w.alloc (.cells #[.int .u8 5, .int .i64 p, .int .i64 n, .string nm] 30)).heap.size := by simp; omega
  have hbl := lt_of_heap h.here
  have K := Aside0.mk (fun (W : World) (hW : W.heap = w.heap.push (.cells #[.int .u8 5, .int .i64 p, .int .i64 n, .string nm] 30)) => putF_at hr hs hN (by omega) hb2 hW ⟨2, p, n, ⟨#[]⟩, []⟩ rfl)
  have HW := Aside0.mk h.ways
  clear h hr hs hb2
  go_enter Tryd.func38, Tryd.ntmps38
  go_wp2
  go_cut [5] (fun q wx => Tk1 w wx base s (.cells #[.int .u8 5, .int .i64 p, .int .i64 n, .string nm] 30) q)
  case first =>
    rcases HW.out with ⟨h0, hq, Ao, co, r2⟩ | ⟨m, g, c, q, h0, hq, r2, t1, hg⟩
    · have HQ := Aside0.mk hq
      clear h0 hq
      go_quiet (fail)
      go_wp2_with fail
      go_meet
      case rel => exact tk1_mk hb HQ.out _
    · have HQ := Aside0.mk hq
      have n0 : (0 : Int) ≤ (m : Int) := by omega
      have n1 : (m : Int) < (m : Int) + 1 := by omega
      have n2 : (0 : Int) < (m : Int) + 1 := by omega
      have wm : IntKind.i64.wrap (m : Int) = (m : Int) := IntWalk.i64_in _ (by omega)
      have d0 : decide ((0 : Int) < (m : Int) + 1) = true := decide_eq_true n2
      clear h0 hq
      go_quiet (fail)
      go_wp2_with fail
      go_meet
      case rel => exact tk1_mk hb HQ.out _
  case rest =>
    obtain ⟨rfl, hh, hB⟩ := hcut
    have b0 := box_cells hh 0 _ rfl
    have b1 := box_cells hh 1 _ rfl
    have b2 := box_cells hh 2 _ rfl
    have HH := Aside0.mk hh
    have HB := Aside0.mk hB
    clear hh hB HW
    go_wp2_with (go_at_call 50; refine (K.out _ HH.out).mono ?_; rintro e w4 ⟨rfl, hE, hB4⟩; have HE := Aside0.mk hE; have HB4 := Aside0.mk hB4; clear hE hB4)
    go_ret
    exact ⟨rfl, HE.out, HB.out.trans HB4.out⟩
set_option maxHeartbeats 4000000 in
set_option maxRecDepth 100000 in
theorem tokF_6 (w : World) (base b : Nat) (lab : Nat → Nat) (vr vt vo : Value) (s : St) (p n : Int) (nm : ByteArray) (N : Nat) (h : Rf w base b lab vr vt vo s) (hs : Small N s) (hN : N + s.ops.length ≤ 1000000) (hn : s.ops.length ≤ 50) (hb : base ≤ w.heap.size) :
    Calls Tryd.prog 38 #[.pointer (some ⟨b, 0, none⟩), .agg #[.int .u8 6, .int .i64 p, .int .i64 n, .string nm]] w (RetTf base b (tok s ⟨6, p, n, nm⟩) w) := by
  have hr := h.relab (w1 := w.alloc (.cells #[.int .u8 6, .int .i64 p, .int .i64 n, .string nm] 30)) (lab' := lab) (fun j hj => push_old w _ j hj) (fun _ _ => rfl)
  have hb2 : base ≤ (w.alloc (.cells #[.int .u8 6, .int .i64 p, .int .i64 n, .string nm] 30)).heap.size := by simp; omega
  have hbl := lt_of_heap h.here
  have K := Aside0.mk (fun (W : World) (hW : W.heap = w.heap.push (.cells #[.int .u8 6, .int .i64 p, .int .i64 n, .string nm] 30)) => putF_at hr hs hN (by omega) hb2 hW ⟨3, p, 0, nm, []⟩ rfl)
  have HW := Aside0.mk h.ways
  clear h hr hs hb2
  go_enter Tryd.func38, Tryd.ntmps38
  go_wp2
  go_cut [5] (fun q wx => Tk1 w wx base s (.cells #[.int .u8 6, .int .i64 p, .int .i64 n, .string nm] 30) q)
  case first =>
    rcases HW.out with ⟨h0, hq, Ao, co, r2⟩ | ⟨m, g, c, q, h0, hq, r2, t1, hg⟩
    · have HQ := Aside0.mk hq
      clear h0 hq
      go_quiet (fail)
      go_wp2_with fail
      go_meet
      case rel => exact tk1_mk hb HQ.out _
    · have HQ := Aside0.mk hq
      have n0 : (0 : Int) ≤ (m : Int) := by omega
      have n1 : (m : Int) < (m : Int) + 1 := by omega
      have n2 : (0 : Int) < (m : Int) + 1 := by omega
      have wm : IntKind.i64.wrap (m : Int) = (m : Int) := IntWalk.i64_in _ (by omega)
      have d0 : decide ((0 : Int) < (m : Int) + 1) = true := decide_eq_true n2
      clear h0 hq
      go_quiet (fail)
      go_wp2_with fail
      go_meet
      case rel => exact tk1_mk hb HQ.out _
  case rest =>
    obtain ⟨rfl, hh, hB⟩ := hcut
    have b0 := box_cells hh 0 _ rfl
    have b1 := box_cells hh 1 _ rfl
    have b2 := box_cells hh 3 _ rfl
    have HH := Aside0.mk hh
    have HB := Aside0.mk hB
    clear hh hB HW
    go_wp2_with (go_at_call 50; refine (K.out _ HH.out).mono ?_; rintro e w4 ⟨rfl, hE, hB4⟩; have HE := Aside0.mk hE; have HB4 := Aside0.mk hB4; clear hE hB4)
    go_ret
    exact ⟨rfl, HE.out, HB.out.trans HB4.out⟩
set_option maxHeartbeats 4000000 in
set_option maxRecDepth 100000 in
theorem tokF_2 (w : World) (base b : Nat) (lab : Nat → Nat) (vr vt vo : Value) (s : St) (p n : Int) (nm : ByteArray) (N : Nat) (h : Rf w base b lab vr vt vo s) (hs : Small N s) (hN : N + s.ops.length + 1 ≤ 1000000) (hn : s.ops.length ≤ 50) (hb : base ≤ w.heap.size) :
    Calls Tryd.prog 38 #[.pointer (some ⟨b, 0, none⟩), .agg #[.int .u8 2, .int .i64 p, .int .i64 n, .string nm]] w (RetTf base b (tok s ⟨2, p, n, nm⟩) w) := by
  obtain ⟨r, hrr⟩ : ∃ r, tok s ⟨2, p, n, nm⟩ = r := ⟨_, rfl⟩
  rw [hrr]
  have Hr := Aside0.mk hrr
  clear hrr
  have hr := h.relab (w1 := w.alloc (.cells #[.int .u8 2, .int .i64 p, .int .i64 n, .string nm] 30)) (lab' := lab) (fun j hj => push_old w _ j hj) (fun _ _ => rfl)
  have hb2 : base ≤ (w.alloc (.cells #[.int .u8 2, .int .i64 p, .int .i64 n, .string nm] 30)).heap.size := by simp; omega
  have hbl := lt_of_heap h.here
  have HR := Aside0.mk hr
  have hs := Aside0.mk hs
  have HW := Aside0.mk h.ways
  clear h hr
  go_enter Tryd.func38, Tryd.ntmps38
  go_wp2
  go_cut [5] (fun q wx => Tk1 w wx base s (.cells #[.int .u8 2, .int .i64 p, .int .i64 n, .string nm] 30) q)
  case first =>
    rcases HW.out with ⟨h0, hq, Ao, co, r2⟩ | ⟨m, g, c, q, h0, hq, r2, t1, hg⟩
    · have HQ := Aside0.mk hq
      clear h0 hq
      go_quiet (fail)
      go_wp2_with fail
      go_meet
      case rel => exact tk1_mk hb HQ.out _
    · have HQ := Aside0.mk hq
      have n0 : (0 : Int) ≤ (m : Int) := by omega
      have n1 : (m : Int) < (m : Int) + 1 := by omega
      have n2 : (0 : Int) < (m : Int) + 1 := by omega
      have wm : IntKind.i64.wrap (m : Int) = (m : Int) := IntWalk.i64_in _ (by omega)
      have d0 : decide ((0 : Int) < (m : Int) + 1) = true := decide_eq_true n2
      clear h0 hq
      go_quiet (fail)
      go_wp2_with fail
      go_meet
      case rel => exact tk1_mk hb HQ.out _
  case rest =>
    obtain ⟨rfl, hh, hB⟩ := hcut
    have b0 := box_cells hh 0 _ rfl
    have hR := HR.out.same hh
    have hbc : base ≤ wc.heap.size := by rw [hh]; exact hb2
    have HB := Aside0.mk hB
    clear hh hB HW HR
    obtain ⟨row, tops, ops⟩ := s
    cases ops with
    | nil =>
      obtain ⟨Ao, co, rfl⟩ : ∃ A c, vo = .slice A 0 c := by
        obtain ⟨ps, _, _, ho⟩ := hR.ptr
        exact own_slice ho
      have r2 : wc.cell? ⟨b, 2, none⟩ = some (.slice Ao 0 co) := cell_blk hR.here 2 _ rfl
      have HR := Aside0.mk hR
      clear hR
      obtain ⟨qv, hqv⟩ : ∃ qv, topQ ⟨row, tops, []⟩ = qv := ⟨_, rfl⟩
      obtain rfl : qv = false := hqv.symm
      rw [hqv]
      clear hqv
      go_wp2
      go_ret
      rw [← Hr.out]
      exact ⟨rfl, ⟨_, _, _, _, HR.out⟩, HB.out⟩
    | cons o os =>
      obtain ⟨g, c, Al, cl, vs, rfl, hcn, -, -, -, -, -, -, -, -, -, -, -⟩ := hR.top
      have r2 : wc.cell? ⟨b, 2, none⟩ = some (.slice (some ⟨g, 0, none⟩) (os.length + 1) c) := cell_blk hR.here 2 _ rfl
      have e2 : topQ ⟨row, tops, o :: os⟩ = o.q := rfl
      rw [e2]
      have HR := Aside0.mk hR
      clear e2 hR
      cases hq : o.q with
      | true =>
        have e : tok ⟨row, tops, o :: os⟩ ⟨2, p, n, nm⟩ = (⟨row, tops, o :: os⟩, 63) := by simp [YthempkdgmobocaaDoorM.tok, hq]
        have He := Aside0.mk (Hr.out.symm.trans e)
        clear e hq
        go_wp2
        go_ret
        rw [He.out]
        exact ⟨rfl, ⟨_, _, _, _, HR.out⟩, HB.out⟩
      | false =>
        have e : tok ⟨row, tops, o :: os⟩ ⟨2, p, n, nm⟩ = (put os row tops ⟨4, o.p, 0, noS, o.l⟩, 0) := by simp [YthempkdgmobocaaDoorM.tok, hq]
        have He := Aside0.mk (Hr.out.symm.trans e)
        have d0 : ((os.length : Int) + 1 == 0) = false := by simp; omega
        clear e hq
        go_wp2_with (go_at_call 51; refine (closeF_calls os (putF_calls os) _ base b lab vr vt _ row tops o N HR.out hbc (by simp at hN; omega) (by simp at hn; omega) hs.out.row hs.out.tops (fun o' h' => hs.out.ops o' (List.mem_cons_of_mem _ h'))).mono ?_; rintro e w4 ⟨rfl, hE, hB4⟩; have HE := Aside0.mk hE; have HB4 := Aside0.mk hB4; clear hE hB4)
        go_ret
        rw [He.out]
        exact ⟨rfl, HE.out, HB.out.trans HB4.out⟩
end Go.Proofs.YthempkdgmobocaaDoorE
end
section
/- The walk of the reference's reader: token, where a list is opened. -/
namespace Go.Proofs.YthempkdgmobocaaDoorE
open Go Go.RowKit Go.Proofs.YthempkdgmobocaaDoorEd Go.Proofs.YthempkdgmobocaaDoor.L Go.Proofs.YthempkdgmobocaaDoor.N Go.Proofs.YthempkdgmobocaaDoorM
open Go.Proofs.YthempkdgmobocaaDoorW.PrintWords Go.Proofs.YthempkdgmobocaaDoorW.PrintLast Go.Proofs.YthempkdgmobocaaDoorW.PrintMore
attribute [local go_sem ↓] Go.wp_at_zero Go.wp_at_succ

section
variable {P : Program} {ops : Array Oper} {o : Oper} {a : Act} {Q : Exit → Act → World → Prop} {K : Act → World → Prop}
/-- append of one element's cells, as a step of a region whose draw is behind the box. -/
theorem append_drewC {w0 W : World} (base : Nat) (hw : Region.wanted o (yielded ops a.tmps) = true) (s x : Operand) (t e : TypeId) (z : Value) (size bytes : Nat)
    (ho : o.op = .call { callee := .builtin .append, args := #[s, x], argTypes := #[t, t] })
    (ht : P.underlying t = some (.slice e)) (hinfo : (P.info? e).map (fun i => (i.zero, i.size, i.bytes)) = some (some z, size, bytes)) (hz : z.cells.size = size) (hs0 : 0 < size) (hb0 : 0 < bytes)
    (v : Value) (n : Nat) (xs ys : List Value) (hs : a.eval s = v) {H : Nat} (hx : a.eval x = .slice (some ⟨H, 0, none⟩) 1 1) (hH : H = W.heap.size) (hys : ys.length = size) (h1 : ∀ u ∈ ys, u.oneCell' = true)
    (HO : W.drew.ownsRow base e size v n xs) (HB : Below base w0 W.drew) (hbase : base ≤ W.heap.size) (hl : (n + 1) * bytes ≤ 140737488355328)
    (h : ∀ v1 w1, w1.ownsRow base e size v1 (n + 1) (xs ++ ys) → Below base w0 w1 → W.drew.grownBy w1 v.ownBlock → (v1.ownBlock = v.ownBlock ∨ ∃ b, v1.ownBlock = some b ∧ W.heap.size ≤ b) → K (a.put o.dst v1) w1) :
    if Region.wanted o (yielded ops a.tmps) = true then Oper.wp P o a ((W.alloc (.cells ys.toArray e)).drew) K Q else K (a.put o.dst undef) ((W.alloc (.cells ys.toArray e)).drew) :=
  step_append_cells (W := W.drew) base hw s x t e z size bytes ho ht hinfo hz hs0 hb0 v n xs ys hs (by rw [hx, hH]; rfl) hys h1 HO HB hbase hl h
end
theorem three_one (p : Int) (q : Bool) : ∀ u ∈ [Value.int .i64 p, .bool q, .slice none 0 0], u.oneCell' = true := by
  intro u hu
  simp at hu
  rcases hu with rfl | rfl | rfl <;> rfl
/-- behind the push. -/
def Tk2 (w wx : World) (base b : Nat) (s : St) (bx : Nat) (bo : Obj) : Prop := RfE wx base b s ∧ wx.heap[bx]? = some bo ∧ Below base w wx
theorem tk2_mk {w wc w4 : World} {base b bx : Nat} {lab : Nat → Nat} {vr vt vo v1 : Value} {s : St} {o : Opn} {vs : List Value} {bo : Obj} (h : Rf wc base b lab vr vt vo s) (hl : ∀ k, vo.ownBlock = some k → lab k = 3 ∧ k ≠ bx) (hol : o.l = []) (he : EachF wc base lab vs s.ops)
    (ho : w4.ownsRow base 74 3 v1 (s.ops.length + 1) (cellsF vs s.ops ++ [.int .i64 o.p, .bool o.q, .slice none 0 0])) (hg : wc.drew.grownBy w4 vo.ownBlock) (hat : v1.ownBlock = vo.ownBlock ∨ ∃ b, v1.ownBlock = some b ∧ wc.heap.size ≤ b)
    (hB : Below base w w4) (hbx : wc.heap[bx]? = some bo) (hbb : bx ≠ b) : Tk2 w (w4.setCell ⟨b, 2, none⟩ v1) base b ⟨s.row, s.tops, o :: s.ops⟩ bx bo := by
  have hC : Chg wc w4 lab (fresh lab wc.heap.size 3) 3 := Chg.of_grown (w := wc) ⟨hg.os, hg.tape, hg.output, hg.size, hg.block⟩ (fun k hk => (hl k hk).1) rfl
  refine ⟨⟨_, _, _, _, h.pushed hC hol (fun k hk => ?_) he ho⟩, ?_, hB.setCell (p := ⟨b, 2, none⟩) h.bb _⟩
  · rcases hat with e | ⟨b', e, hle⟩
    · rw [e] at hk
      obtain ⟨_, _, _, ho2⟩ := h.ptr
      rw [fresh_old _ _ _ _ (own_lt ho2 k hk)]
      exact (hl k hk).1
    · rw [e] at hk
      injection hk with hk
      exact fresh_new _ _ _ _ (by omega)
  · rw [heap_set_other w4 b 2 bx v1 hbb]
    exact (hg.block bx (lt_of_heap hbx) (fun e => (hl bx e.symm).2 rfl)).trans hbx
set_option maxHeartbeats 4000000 in
set_option maxRecDepth 100000 in
theorem tokF_1 (w : World) (base b : Nat) (lab : Nat → Nat) (vr vt vo : Value) (s : St) (p n : Int) (nm : ByteArray) (N : Nat) (h : Rf w base b lab vr vt vo s) (hs : Small N s) (_hN : N + s.ops.length + 1 ≤ 1000000) (hn : s.ops.length ≤ 50) (hb : base ≤ w.heap.size) :
    Calls Tryd.prog 38 #[.pointer (some ⟨b, 0, none⟩), .agg #[.int .u8 1, .int .i64 p, .int .i64 n, .string nm]] w (RetTf base b (tok s ⟨1, p, n, nm⟩) w) := by
  have hr := h.relab (w1 := w.alloc (.cells #[.int .u8 1, .int .i64 p, .int .i64 n, .string nm] 30)) (lab' := lab) (fun j hj => push_old w _ j hj) (fun _ _ => rfl)
  have hb2 : base ≤ (w.alloc (.cells #[.int .u8 1, .int .i64 p, .int .i64 n, .string nm] 30)).heap.size := by simp; omega
  have hbl := lt_of_heap h.here
  have HR := Aside0.mk hr
  have hs := Aside0.mk hs
  have HW := Aside0.mk h.ways
  have HR0 := Aside0.mk h
  clear h hr
  have hpre := Aside0.mk hbl
  by_cases h50 : 50 ≤ s.ops.length
  · have e : tok s ⟨1, p, n, nm⟩ = (s, 62) := by simp [YthempkdgmobocaaDoorM.tok, h50]
    rw [e]
    have d50 : decide ((50 : Int) ≤ (s.ops.length : Int)) = true := decide_eq_true (by omega)
    clear e
    go_enter Tryd.func38, Tryd.ntmps38
    go_wp2
    go_cut [5] (fun q wx => Tk1 w wx base s (.cells #[.int .u8 1, .int .i64 p, .int .i64 n, .string nm] 30) q)
    case first =>
      rcases HW.out with ⟨h0, hq, Ao, co, r2⟩ | ⟨m, g, c, q, h0, hq, r2, t1, hg⟩
      · have HQ := Aside0.mk hq
        clear h0 hq
        go_quiet (fail)
        go_wp2_with fail
        go_meet
        case rel => exact tk1_mk hb HQ.out _
      · have HQ := Aside0.mk hq
        have n0 : (0 : Int) ≤ (m : Int) := by omega
        have n1 : (m : Int) < (m : Int) + 1 := by omega
        have n2 : (0 : Int) < (m : Int) + 1 := by omega
        have wm : IntKind.i64.wrap (m : Int) = (m : Int) := IntWalk.i64_in _ (by omega)
        have d0 : decide ((0 : Int) < (m : Int) + 1) = true := decide_eq_true n2
        clear h0 hq
        go_quiet (fail)
        go_wp2_with fail
        go_meet
        case rel => exact tk1_mk hb HQ.out _
    case rest =>
      obtain ⟨rfl, hh, hB⟩ := hcut
      have b0 := box_cells hh 0 _ rfl
      have hR := HR.out.same hh
      obtain ⟨ps, _, _, ho⟩ := hR.ptr
      obtain ⟨Ao, co, rfl⟩ := own_slice ho
      have r2 : wc.cell? ⟨b, 2, none⟩ = some (.slice Ao s.ops.length co) := cell_blk hR.here 2 _ rfl
      have HB := Aside0.mk hB
      have HRc := Aside0.mk hR
      clear hh hB HW HR hR ho
      go_wp2
      go_ret
      exact ⟨rfl, ⟨_, _, _, _, HRc.out⟩, HB.out⟩
  · have e : tok s ⟨1, p, n, nm⟩ = (⟨s.row, s.tops, ⟨p, false, []⟩ :: s.ops⟩, 0) := by simp [YthempkdgmobocaaDoorM.tok, h50]
    rw [e]
    have d50 : decide ((50 : Int) ≤ (s.ops.length : Int)) = false := decide_eq_false (by omega)
    have hown : ∀ k, vo.ownBlock = some k → k ≠ w.heap.size := fun k hk e => by
      obtain ⟨_, _, _, ho⟩ := HR0.out.ptr
      have := own_lt ho k hk
      omega
    have HOw := Aside0.mk hown
    clear e hown HR0
    go_enter Tryd.func38, Tryd.ntmps38
    go_wp2
    go_cut [5] (fun q wx => Tk1 w wx base s (.cells #[.int .u8 1, .int .i64 p, .int .i64 n, .string nm] 30) q)
    case first =>
      rcases HW.out with ⟨h0, hq, Ao, co, r2⟩ | ⟨m, g, c, q, h0, hq, r2, t1, hg⟩
      · have HQ := Aside0.mk hq
        clear h0 hq
        go_quiet (fail)
        go_wp2_with fail
        go_meet
        case rel => exact tk1_mk hb HQ.out _
      · have HQ := Aside0.mk hq
        have n0 : (0 : Int) ≤ (m : Int) := by omega
        have n1 : (m : Int) < (m : Int) + 1 := by omega
        have n2 : (0 : Int) < (m : Int) + 1 := by omega
        have wm : IntKind.i64.wrap (m : Int) = (m : Int) := IntWalk.i64_in _ (by omega)
        have d0 : decide ((0 : Int) < (m : Int) + 1) = true := decide_eq_true n2
        clear h0 hq
        go_quiet (fail)
        go_wp2_with fail
        go_meet
        case rel => exact tk1_mk hb HQ.out _
    case rest =>
      obtain ⟨rfl, hh, hB⟩ := hcut
      have b0 := box_cells hh 0 _ rfl
      have b1 := box_cells hh 1 _ rfl
      have hR := HR.out.same hh
      obtain ⟨vs, hE, hlab, ho⟩ := hR.ptr
      obtain ⟨Ao, co, rfl⟩ := own_slice ho
      have r2 : wc.cell? ⟨b, 2, none⟩ = some (.slice Ao s.ops.length co) := cell_blk hR.here 2 _ rfl
      have f2 := free_blk hR.here 2
      have hblc := lt_of_heap hR.here
      have hbc : base ≤ wc.heap.size := by rw [hh]; exact hb2
      have hbx : wc.heap[w.heap.size]? = some (.cells #[.int .u8 1, .int .i64 p, .int .i64 n, .string nm] 30) := by rw [hh]; simp
      have hbxl := lt_of_heap hbx
      have HNb := Aside0.mk (show some b ≠ (Value.slice Ao s.ops.length co).ownBlock from fun e => by have := hlab b e.symm; have := hR.lb; omega)
      have HNx := Aside0.mk (show some w.heap.size ≠ (Value.slice Ao s.ops.length co).ownBlock from fun e => HOw.out _ e.symm rfl)
      have HB := Aside0.mk hB
      have HRc := Aside0.mk hR
      have HE := Aside0.mk hE
      have HLb := Aside0.mk hlab
      have HO := Aside0.mk ho
      have HX := Aside0.mk hbx
      clear hh hB HW HR hR hE hlab ho hbx
      go_wp2_with fail
      go_cut [] (fun wx => Tk2 w wx base b ⟨s.row, s.tops, ⟨p, false, []⟩ :: s.ops⟩ w.heap.size (.cells #[.int .u8 1, .int .i64 p, .int .i64 n, .string nm] 30))
      case first =>
        go_region_law
          ((refine append_drewC (w0 := w) base (by rfl) (.tmp 69) (.tmp 76) 70 74 (.agg #[(.int .i64 0), (.bool false), (.slice none 0 0)]) 3 40 (by rfl) Tryd.underlying70 info74 rfl (by decide) (by decide) (.slice Ao s.ops.length co) s.ops.length (cellsF vs s.ops) [.int .i64 p, .bool false, .slice none 0 0] (by rfl) (by rfl) (by simp) rfl (three_one _ _) (by exact own_move HO.out (fun _ _ => rfl)) (by exact HB.out.drew) (by exact hbc) (by omega) ?_; intro v4 w4 ho4 hB4 hg4 hat4; obtain ⟨A4, d4, rfl⟩ := own_slice ho4; have HO4 := Aside0.mk ho4; have HB4 := Aside0.mk hB4; have HG4 := Aside0.mk hg4; have HA4 := Aside0.mk hat4; have g2 := (World.frozen?_of_block (a := ⟨b, 2, none⟩) (hg4.block b (by exact hblc) HNb.out)).trans f2; have s2 := hg4.cell (a := ⟨b, 2, none⟩) (by exact r2) HNb.out; have s0 := hg4.cell (a := ⟨w.heap.size, 0, none⟩) (by exact b0) HNx.out; have s1 := hg4.cell (a := ⟨w.heap.size, 1, none⟩) (by exact b1) HNx.out; have hz4 : b < w4.heap.size := (Nat.lt_of_lt_of_le hblc hg4.size); clear ho4 hB4 hg4 hat4))
        all_goals
          go_wp2_with fail
          go_meet
          case rel => exact tk2_mk (o := ⟨p, false, []⟩) HRc.out (fun k hk => ⟨HLb.out k hk, HOw.out k hk⟩) rfl HE.out HO4.out HG4.out HA4.out HB4.out HX.out (by omega)
      case rest =>
        obtain ⟨⟨lab5, vr5, vt5, vo5, hR5⟩, hx5, hB5⟩ := hcut
        have y0 := cell_blk hx5 0 _ rfl
        have y1 := cell_blk hx5 1 _ rfl
        have HR5 := Aside0.mk hR5
        have HB5 := Aside0.mk hB5
        have hz5 := hB5.size
        clear hx5 hR5 hB5 hz5 r2 f2 b0 b1
        go_wp2
        go_ret
        exact ⟨rfl, ⟨_, _, _, _, HR5.out⟩, HB5.out⟩
end Go.Proofs.YthempkdgmobocaaDoorE
end
section
/- The walk of the reference's reader: token, where a quote is opened. -/
namespace Go.Proofs.YthempkdgmobocaaDoorE
open Go Go.RowKit Go.Proofs.YthempkdgmobocaaDoorEd Go.Proofs.YthempkdgmobocaaDoor.L Go.Proofs.YthempkdgmobocaaDoor.N Go.Proofs.YthempkdgmobocaaDoorM
open Go.Proofs.YthempkdgmobocaaDoorW.PrintWords Go.Proofs.YthempkdgmobocaaDoorW.PrintLast Go.Proofs.YthempkdgmobocaaDoorW.PrintMore
attribute [local go_sem ↓] Go.wp_at_zero Go.wp_at_succ

set_option maxHeartbeats 800000 in
set_option maxRecDepth 100000 in
theorem tokF_3 (w : World) (base b : Nat) (lab : Nat → Nat) (vr vt vo : Value) (s : St) (p n : Int) (nm : ByteArray) (N : Nat) (h : Rf w base b lab vr vt vo s) (hs : Small N s) (hN : N + s.ops.length + 1 ≤ 1000000) (hn : s.ops.length ≤ 50) (hb : base ≤ w.heap.size) :
    Calls Tryd.prog 38 #[.pointer (some ⟨b, 0, none⟩), .agg #[.int .u8 3, .int .i64 p, .int .i64 n, .string nm]] w (RetTf base b (tok s ⟨3, p, n, nm⟩) w) := by
  have hr := h.relab (w1 := w.alloc (.cells #[.int .u8 3, .int .i64 p, .int .i64 n, .string nm] 30)) (lab' := lab) (fun j hj => push_old w _ j hj) (fun _ _ => rfl)
  have hb2 : base ≤ (w.alloc (.cells #[.int .u8 3, .int .i64 p, .int .i64 n, .string nm] 30)).heap.size := by simp; omega
  have hbl := lt_of_heap h.here
  have HR := Aside0.mk hr
  have hs := Aside0.mk hs
  have HW := Aside0.mk h.ways
  have HR0 := Aside0.mk h
  clear h hr
  have hpre := Aside0.mk hbl
  by_cases h50 : 50 ≤ s.ops.length
  · have e : tok s ⟨3, p, n, nm⟩ = (s, 62) := by simp [YthempkdgmobocaaDoorM.tok, h50]
    rw [e]
    have d50 : decide ((50 : Int) ≤ (s.ops.length : Int)) = true := decide_eq_true (by omega)
    clear e
    go_enter Tryd.func38, Tryd.ntmps38
    go_wp2
    go_cut [5] (fun q wx => Tk1 w wx base s (.cells #[.int .u8 3, .int .i64 p, .int .i64 n, .string nm] 30) q)
    case first =>
      rcases HW.out with ⟨h0, hq, Ao, co, r2⟩ | ⟨m, g, c, q, h0, hq, r2, t1, hg⟩
      · have HQ := Aside0.mk hq
        clear h0 hq
        go_quiet (fail)
        go_wp2_with fail
        go_meet
        case rel => exact tk1_mk hb HQ.out _
      · have HQ := Aside0.mk hq
        have n0 : (0 : Int) ≤ (m : Int) := by omega
        have n1 : (m : Int) < (m : Int) + 1 := by omega
        have n2 : (0 : Int) < (m : Int) + 1 := by omega
        have wm : IntKind.i64.wrap (m : Int) = (m : Int) := IntWalk.i64_in _ (by omega)
        have d0 : decide ((0 : Int) < (m : Int) + 1) = true := decide_eq_true n2
        clear h0 hq
        go_quiet (fail)
        go_wp2_with fail
        go_meet
        case rel => exact tk1_mk hb HQ.out _
    case rest =>
      obtain ⟨rfl, hh, hB⟩ := hcut
      have b0 := box_cells hh 0 _ rfl
      have hR := HR.out.same hh
      obtain ⟨ps, _, _, ho⟩ := hR.ptr
      obtain ⟨Ao, co, rfl⟩ := own_slice ho
      have r2 : wc.cell? ⟨b, 2, none⟩ = some (.slice Ao s.ops.length co) := cell_blk hR.here 2 _ rfl
      have HB := Aside0.mk hB
      have HRc := Aside0.mk hR
      clear hh hB HW HR hR ho
      go_wp2
      go_ret
      exact ⟨rfl, ⟨_, _, _, _, HRc.out⟩, HB.out⟩
  · have e : tok s ⟨3, p, n, nm⟩ = ((St.add ⟨s.row, s.tops, ⟨p, true, []⟩ :: s.ops⟩ ⟨3, p, 0, quoteS, []⟩), 0) := by simp [YthempkdgmobocaaDoorM.tok, h50]
    rw [e]
    have d50 : decide ((50 : Int) ≤ (s.ops.length : Int)) = false := decide_eq_false (by omega)
    have hown : ∀ k, vo.ownBlock = some k → k ≠ w.heap.size := fun k hk e => by
      obtain ⟨_, _, _, ho⟩ := HR0.out.ptr
      have := own_lt ho k hk
      omega
    have HOw := Aside0.mk hown
    clear e hown HR0
    go_enter Tryd.func38, Tryd.ntmps38
    go_wp2
    go_cut [5] (fun q wx => Tk1 w wx base s (.cells #[.int .u8 3, .int .i64 p, .int .i64 n, .string nm] 30) q)
    case first =>
      rcases HW.out with ⟨h0, hq, Ao, co, r2⟩ | ⟨m, g, c, q, h0, hq, r2, t1, hg⟩
      · have HQ := Aside0.mk hq
        clear h0 hq
        go_quiet (fail)
        go_wp2_with fail
        go_meet
        case rel => exact tk1_mk hb HQ.out _
      · have HQ := Aside0.mk hq
        have n0 : (0 : Int) ≤ (m : Int) := by omega
        have n1 : (m : Int) < (m : Int) + 1 := by omega
        have n2 : (0 : Int) < (m : Int) + 1 := by omega
        have wm : IntKind.i64.wrap (m : Int) = (m : Int) := IntWalk.i64_in _ (by omega)
        have d0 : decide ((0 : Int) < (m : Int) + 1) = true := decide_eq_true n2
        clear h0 hq
        go_quiet (fail)
        go_wp2_with fail
        go_meet
        case rel => exact tk1_mk hb HQ.out _
    case rest =>
      obtain ⟨rfl, hh, hB⟩ := hcut
      have b0 := box_cells hh 0 _ rfl
      have b1 := box_cells hh 1 _ rfl
      have hR := HR.out.same hh
      obtain ⟨vs, hE, hlab, ho⟩ := hR.ptr
      obtain ⟨Ao, co, rfl⟩ := own_slice ho
      have r2 : wc.cell? ⟨b, 2, none⟩ = some (.slice Ao s.ops.length co) := cell_blk hR.here 2 _ rfl
      have f2 := free_blk hR.here 2
      have hblc := lt_of_heap hR.here
      have hbc : base ≤ wc.heap.size := by rw [hh]; exact hb2
      have hbx : wc.heap[w.heap.size]? = some (.cells #[.int .u8 3, .int .i64 p, .int .i64 n, .string nm] 30) := by rw [hh]; simp
      have hbxl := lt_of_heap hbx
      have HNb := Aside0.mk (show some b ≠ (Value.slice Ao s.ops.length co).ownBlock from fun e => by have := hlab b e.symm; have := hR.lb; omega)
      have HNx := Aside0.mk (show some w.heap.size ≠ (Value.slice Ao s.ops.length co).ownBlock from fun e => HOw.out _ e.symm rfl)
      have HB := Aside0.mk hB
      have HRc := Aside0.mk hR
      have HE := Aside0.mk hE
      have HLb := Aside0.mk hlab
      have HO := Aside0.mk ho
      have HX := Aside0.mk hbx
      clear hh hB HW HR hR hE hlab ho hbx
      go_wp2_with fail
      go_cut [] (fun wx => Tk2 w wx base b ⟨s.row, s.tops, ⟨p, true, []⟩ :: s.ops⟩ w.heap.size (.cells #[.int .u8 3, .int .i64 p, .int .i64 n, .string nm] 30))
      case first =>
        go_region_law
          ((refine append_drewC (w0 := w) base (by rfl) (.tmp 69) (.tmp 76) 70 74 (.agg #[(.int .i64 0), (.bool false), (.slice none 0 0)]) 3 40 (by rfl) Tryd.underlying70 info74 rfl (by decide) (by decide) (.slice Ao s.ops.length co) s.ops.length (cellsF vs s.ops) [.int .i64 p, .bool true, .slice none 0 0] (by rfl) (by rfl) (by simp) rfl (three_one _ _) (by exact own_move HO.out (fun _ _ => rfl)) (by exact HB.out.drew) (by exact hbc) (by omega) ?_; intro v4 w4 ho4 hB4 hg4 hat4; obtain ⟨A4, d4, rfl⟩ := own_slice ho4; have HO4 := Aside0.mk ho4; have HB4 := Aside0.mk hB4; have HG4 := Aside0.mk hg4; have HA4 := Aside0.mk hat4; have g2 := (World.frozen?_of_block (a := ⟨b, 2, none⟩) (hg4.block b (by exact hblc) HNb.out)).trans f2; have s2 := hg4.cell (a := ⟨b, 2, none⟩) (by exact r2) HNb.out; have s0 := hg4.cell (a := ⟨w.heap.size, 0, none⟩) (by exact b0) HNx.out; have s1 := hg4.cell (a := ⟨w.heap.size, 1, none⟩) (by exact b1) HNx.out; have hz4 : b < w4.heap.size := (Nat.lt_of_lt_of_le hblc hg4.size); clear ho4 hB4 hg4 hat4))
        all_goals
          go_wp2_with fail
          go_meet
          case rel => exact tk2_mk (o := ⟨p, true, []⟩) HRc.out (fun k hk => ⟨HLb.out k hk, HOw.out k hk⟩) rfl HE.out HO4.out HG4.out HA4.out HB4.out HX.out (by omega)
      case rest =>
        obtain ⟨⟨lab5, vr5, vt5, vo5, hR5⟩, hx5, hB5⟩ := hcut
        have y0 := cell_blk hx5 0 _ rfl
        have y1 := cell_blk hx5 1 _ rfl
        have HR5 := Aside0.mk hR5
        have HB5 := Aside0.mk hB5
        have hz5 := hB5.size
        have K := Lib.hid (putF_at hR5 (N := N) ⟨hs.out.row, hs.out.tops, fun o ho => by
          rcases List.mem_cons.1 ho with rfl | ho
          · exact Nat.zero_le _
          · exact hs.out.ops o ho⟩ (by simp; omega) (by simp; omega) (by omega) rfl ⟨3, p, 0, quoteS, []⟩ rfl)
        clear hx5 hR5 hB5 hz5 r2 f2 b0 b1
        unfold quoteS at K
        go_wp2_with (go_at_call 50; refine K.out.mono ?_; rintro e w6 ⟨rfl, hE, hB6⟩; have HE := Aside0.mk hE; have HB6 := Aside0.mk hB6; clear hE hB6 K)
        go_ret
        exact ⟨rfl, HE.out, HB5.out.trans HB6.out⟩
end Go.Proofs.YthempkdgmobocaaDoorE
end
section
/- The walk of the reference's Read. -/
namespace Go.Proofs.YthempkdgmobocaaDoorE
open Go Go.RowKit Go.Proofs.YthempkdgmobocaaDoorEd Go.Proofs.YthempkdgmobocaaDoor.L Go.Proofs.YthempkdgmobocaaDoor.N Go.Proofs.YthempkdgmobocaaDoorM Go.Proofs.YthempkdgmobocaaDoorX
open Go.Proofs.YthempkdgmobocaaDoorW.PrintWords Go.Proofs.YthempkdgmobocaaDoorW.PrintLast Go.Proofs.YthempkdgmobocaaDoorW.PrintMore
open Go.Proofs.YthempkdgmobocaaDoorRd (lexR_kinds run_last)
attribute [local go_sem ↓] Go.wp_at_zero Go.wp_at_succ

theorem tokF_calls (w : World) (base b : Nat) (lab : Nat → Nat) (vr vt vo : Value) (s : St) (t : S30) (N : Nat) (h : Rf w base b lab vr vt vo s) (hs : Small N s) (hN : N + s.ops.length + 1 ≤ 1000000) (hn : s.ops.length ≤ 50) (hb : base ≤ w.heap.size) (hk : 1 ≤ t.f0 ∧ t.f0 ≤ 6 ∧ (t.f0 = 5 → t.f2 = 0 ∨ t.f2 = 1)) :
    Calls Tryd.prog 38 #[.pointer (some ⟨b, 0, none⟩), .agg #[.int .u8 t.f0, .int .i64 t.f1, .int .i64 t.f2, .string t.f3]] w (RetTf base b (tok s t) w) := by
  obtain ⟨k, p, n, nm⟩ := t
  dsimp only at hk ⊢
  rcases (show k = 1 ∨ k = 2 ∨ k = 3 ∨ k = 4 ∨ k = 5 ∨ k = 6 by omega) with rfl | rfl | rfl | rfl | rfl | rfl
  · exact tokF_1 w base b lab vr vt vo s p n nm N h hs hN hn hb
  · exact tokF_2 w base b lab vr vt vo s p n nm N h hs hN hn hb
  · exact tokF_3 w base b lab vr vt vo s p n nm N h hs hN hn hb
  · exact tokF_4 w base b lab vr vt vo s p n nm N h hs (by omega) hn hb
  · exact tokF_5 w base b lab vr vt vo s p n nm N h hs (by omega) hn hb
  · exact tokF_6 w base b lab vr vt vo s p n nm N h hs (by omega) hn hb
def UptoF (toks : List S30) (w1 : World) (b k : Nat) (wr : World) : Prop :=
  ∃ s, run ⟨[], [], []⟩ (toks.take k) = .ok s ∧ RfE wr w1.heap.size b s ∧ Below w1.heap.size w1 wr ∧ Small (60 * k) s ∧ s.ops.length ≤ 50
theorem uptoF_zero (toks : List S30) (w1 : World) : UptoF toks w1 w1.heap.size 0 (w1.alloc (.cells #[.slice none 0 0, .slice none 0 0, .slice none 0 0] 72)) := by
  refine ⟨⟨[], [], []⟩, rfl, ⟨fun k => if k = w1.heap.size then 0 else 9, _, _, _, ⟨heap_alloc_new _ _, Nat.le_refl _, if_pos rfl, Kd.R_nil _ _ _ _ _, Kd.R_nil _ _ _ _ _, [], trivial, fun k hk => by simp [Value.ownBlock] at hk, World.ownsRow_nil _ _ _ _⟩⟩, below_alloc (Below.refl _ _) _, ⟨Nat.zero_le _, Nat.zero_le _, fun o h => absurd h (by simp)⟩, Nat.zero_le _⟩
theorem uptoF_next {toks : List S30} {w1 wr w4 : World} {b : Nat} {xi : Int} {s : St} {t : S30} (h0 : 0 ≤ xi) (hn : run ⟨[], [], []⟩ (toks.take (xi + 1).toNat) = run s [t]) (he : (tok s t).2 = 0) (hE : RfE w4 w1.heap.size b (tok s t).1)
    (hB : Below w1.heap.size w1 wr) (hB4 : Below w1.heap.size wr w4) (hs : Small (60 * xi.toNat + 60) (tok s t).1 ∧ (tok s t).1.ops.length ≤ 50) : UptoF toks w1 b (xi + 1).toNat w4 := by
  refine ⟨(tok s t).1, ?_, hE, hB.trans hB4, ?_, hs.2⟩
  · rw [hn]
    simp only [run]
    rw [if_pos he]
  · have : 60 * (xi + 1).toNat = 60 * xi.toNat + 60 := by omega
    rw [this]; exact hs.1
theorem retF_some {w w1 wr w' : World} {toks : List S30} {b : Nat} {lab : Nat → Nat} {vr vt vo : Value} {row : List S46} {tops : List Int} (hrun : run ⟨[], [], []⟩ toks = .ok ⟨row, tops, []⟩) (h : Rf wr w1.heap.size b lab vr vt vo ⟨row, tops, []⟩)
    (hB : Below w.heap.size w w1) (hB1 : Below w1.heap.size w1 wr) {k : Nat} (hw : w' = wr.drewN k) {e : Ending} (he : e = .returned (.tuple #[vr, vt, .int .i64 0, .int .i64 0])) : RetRead (readT toks) w e w' := by
  have hr : readT toks = (row, tops, 0, 0) := by unfold readT; rw [hrun]; rfl
  rw [hr, hw, he]
  refine ⟨_, _, rfl, Kd.R_lower (Kd.R_mono (Kd.R_move h.row (fun _ _ => rfl)) (fun k hk e => ?_)) hB.size, Kd.R_lower (Kd.R_mono (Kd.R_move h.tops (fun _ _ => rfl)) (fun _ _ => trivial)) hB.size, pw_below_drewN (hB.trans (hB1.mono hB.size)) _⟩
  have h2 := h.tops.1 k e.symm
  omega
theorem rd_mem (toks : List S30) (xi : Int) (h0 : 0 ≤ xi) (h1 : xi < (toks.length : Int)) : rd_T30 toks xi ∈ toks := by
  obtain ⟨i, rfl⟩ := Int.eq_ofNat_of_zero_le h0
  rw [rd_T30_at toks i (by omega)]
  exact List.getElem_mem _
theorem last_at (toks : List S30) (h : 0 < (toks.length : Int)) {row : List S46} {tops : List Int} {o : Opn} {os : List Opn} (hr : run ⟨[], [], []⟩ toks = .ok ⟨row, tops, o :: os⟩) : (rd_T30 toks ((toks.length : Int) - 1)).f0 = 3 → o.p = (rd_T30 toks ((toks.length : Int) - 1)).f1 := by
  have e : ((toks.length : Int) - 1) = ((toks.length - 1 : Nat) : Int) := by omega
  rw [e, rd_T30_at toks _ (by omega)]
  intro h3
  have e2 : toks.take (toks.length - 1) ++ [toks[toks.length - 1]'(by omega)] = toks := by
    rw [← List.take_succ_eq_append_getElem (by omega), show toks.length - 1 + 1 = toks.length by omega, List.take_length]
  obtain ⟨o', os', h1, h2⟩ := run_last (toks.take (toks.length - 1)) ⟨[], [], []⟩ _ (toks[toks.length - 1]'(by omega)) (by rw [e2]; exact hr) h3
  dsimp only at h1
  injection h1 with h1 _
  rw [h1]; exact h2
theorem below_cell {B : Nat} {w w' : World} {a : Addr} {v : Value} (h : Below B w w') (hc : w.cell? a = some v) (hb : a.block < B) : w'.cell? a = some v := (h.cell hb).trans hc
theorem ad_lt {w : World} {toks : List S30} {ad : Addr} (h : Kd.C k30 w (some ad) toks.length toks) (xi : Int) (h0 : 0 ≤ xi) (h1 : xi < (toks.length : Int)) : (ad.add (xi.toNat * 4)).block < w.heap.size := by
  obtain ⟨ad', e, t0, -⟩ := at_T30 h xi h0 h1
  cases e
  exact World.block_lt_of_cell? w _ t0

set_option maxHeartbeats 4000000 in
set_option maxRecDepth 100000 in
theorem readF_err (x : ByteArray) (w : World) (h0 : (lexR x).2.2 ≠ 0) : Calls Tryd.prog 23 #[.string x] w (RetRead (readR x) w) := by
  have hr : readR x = ([], [], (lexR x).2.1, (lexR x).2.2) := by unfold readR; rw [if_neg h0]
  rw [hr]
  have hl := Lib.hid (refLexC.calls x (lexR x).1 (lexR x).2.1 (lexR x).2.2 w rfl)
  generalize (lexR x).2.2 = e0 at hl h0 ⊢
  generalize (lexR x).2.1 = p0 at hl ⊢
  generalize (lexR x).1 = toks at hl
  have b0 : (e0 == 0) = false := by simpa using h0
  have b1 : (e0 != 0) = true := by simpa using h0
  clear hr h0
  go_enter Tryd.func23, Tryd.ntmps23
  go_wp2_with (go_at_call 18; refine hl.out.mono ?_; rintro e w1 ⟨v0, rfl, hR, hB⟩; have HB := Aside0.mk hB; clear hR hB hl)
  exact bodyPost_ret (v := .tuple #[.slice none 0 0, .slice none 0 0, .int .i64 p0, .int .i64 e0]) (by simp [results, Tryd.results23, go_sem]) rfl (ret_none _ _ _ _ HB.out)

set_option maxHeartbeats 4000000 in
set_option maxRecDepth 100000 in
theorem readF_ok (x : ByteArray) (w : World) (h0 : (lexR x).2.2 = 0) : Calls Tryd.prog 23 #[.string x] w (RetRead (readR x) w) := by
  have hr : readR x = readT (lexR x).1 := by unfold readR; rw [if_pos h0]
  rw [hr]
  have hl := Lib.hid (refLexC.calls x (lexR x).1 (lexR x).2.1 (lexR x).2.2 w rfl)
  have hln := Go.Proofs.YthempkdgmobocaaDoorRd.lexR_len x
  have hkd := lexR_kinds x
  rw [h0] at hl
  generalize (lexR x).2.1 = p0 at hl
  generalize (lexR x).1 = toks at hl hln hkd ⊢
  clear hr h0
  go_enter Tryd.func23, Tryd.ntmps23
  go_wp2_with (go_at_call 18; refine hl.out.mono ?_; rintro e w1 ⟨v0, rfl, hR, hB⟩; obtain ⟨A, c, rfl, hc, hC⟩ := Kd.R_reads hR; have HB := Aside0.mk hB; have HC := Aside0.mk hC; clear hR hB hl hC)
  go_loopw [10] (fun i wr => ∃ xi : Int, 0 ≤ xi ∧ xi ≤ (toks.length : Int) ∧ i = .int .i64 xi ∧ UptoF toks w1 w1.heap.size xi.toNat wr) (fun i _ => (toks.length - (intOf i).toNat))
  case atStart => exact ⟨0, by omega, by omega, rfl, uptoF_zero toks w1⟩
  case round =>
    obtain ⟨xi, hx0, hx1, rfl, HU⟩ := hrel
    obtain ⟨s, hrun, hRd, hB1, hSm, ho⟩ := HU
    obtain ⟨lab, vr, vt, vo, hR⟩ := hRd
    by_cases hlt : xi < (toks.length : Int)
    · obtain ⟨ad, e, t0, t1, t2, t3⟩ := at_T30 (Kd.C_below HC.out hB1) xi hx0 hlt
      have hk6 := hkd _ (rd_mem toks xi hx0 hlt)
      obtain ⟨hn1, hn2⟩ := run_next toks xi hx0 hlt s hrun
      generalize rd_T30 toks xi = t at t0 t1 t2 t3 hn1 hn2 hk6
      obtain ⟨e2, he2⟩ : ∃ e2, (tok s t).2 = e2 := ⟨_, rfl⟩
      have hts := tok_small s t _ hSm ho
      have hwz : w1.heap.size ≤ wr.heap.size := hB1.size
      have HN1 := Aside0.mk hn1
      have HK6 := Aside0.mk hk6
      have HN2 := Aside0.mk hn2
      have HE2 := Aside0.mk he2
      have HR := Aside0.mk hR
      have HB1 := Aside0.mk hB1
      have HS := Aside0.mk hSm
      have HTS := Aside0.mk hts
      cases e
      have hadl : (ad.add (xi.toNat * 4)).block < w1.heap.size := ad_lt HC.out xi hx0 hlt
      clear hrun hn1 hn2 he2 hR hB1 hSm hts hk6
      by_cases h0 : e2 = 0
      · have c0 : (e2 == 0) = true := by simpa using h0
        have c1 : (e2 != 0) = false := by simpa using h0
        have H0 := Aside0.mk h0
        clear h0
        go_wp2_with (go_at_call 38; refine (tokF_calls _ w1.heap.size w1.heap.size lab vr vt vo s t (60 * xi.toNat) HR.out HS.out (by omega) ho hwz HK6.out).mono ?_; rintro e w4 ⟨he, hE, hB4⟩; rw [HE2.out] at he; subst he; have HE := Aside0.mk hE; have HB4 := Aside0.mk hB4; clear hE hB4)
        go_roundw
        case rel => exact ⟨xi + 1, by omega, by omega, rfl, uptoF_next hx0 HN1.out (HE2.out.trans H0.out) HE.out HB1.out HB4.out HTS.out⟩
        case measure => simp [intOf]; omega
      · have c0 : (e2 == 0) = false := by simpa using h0
        have c1 : (e2 != 0) = true := by simpa using h0
        have H0 := Aside0.mk h0
        clear h0
        go_wp2_with (go_at_call 38; refine (tokF_calls _ w1.heap.size w1.heap.size lab vr vt vo s t (60 * xi.toNat) HR.out HS.out (by omega) ho hwz HK6.out).mono ?_; rintro e w4 ⟨he, hE, hB4⟩; rw [HE2.out] at he; subst he; have HE := Aside0.mk hE; have HB4 := Aside0.mk hB4; have u0 : w4.cell? (ad.add (xi.toNat * 4)) = some (.int .u8 t.f0) := below_cell hB4 t0 hadl; have u1 : w4.cell? ⟨(ad.add (xi.toNat * 4)).block, (ad.add (xi.toNat * 4)).off + 1, none⟩ = some (.int .i64 t.f1) := below_cell hB4 t1 hadl; clear hE hB4)
        go_quiet (fail)
        go_wp2
        have hq := read_bad (HN2.out (by rw [HE2.out]; exact H0.out))
        rw [HE2.out] at hq
        rw [hq]
        exact bodyPost_ret (v := .tuple #[.slice none 0 0, .slice none 0 0, .int .i64 t.f1, .int .i64 e2]) (by simp [results, Tryd.results23, go_sem]) rfl (ret_none _ _ _ _ (pw_below_drewN (HB.out.trans ((HB1.out.trans HB4.out).mono HB.out.size)) _))
    · have hxe : xi = (toks.length : Int) := by omega
      have hrun' : run ⟨[], [], []⟩ toks = .ok s := by rw [hxe] at hrun; simpa using hrun
      have HRun := Aside0.mk hrun'
      have hwz : w1.heap.size ≤ wr.heap.size := hB1.size
      have HX := Aside0.mk hxe
      have hge : ¬ xi < (toks.length : Int) := hlt
      clear hrun hrun' hxe hlt
      have hwd := HX
      obtain ⟨row, tops, ops⟩ := s
      cases ops with
      | nil =>
        obtain ⟨Ao, co, rfl⟩ : ∃ A c, vo = .slice A 0 c := by
          obtain ⟨ps, _, _, ho⟩ := hR.ptr
          exact own_slice ho
        obtain ⟨A0, d0, rfl⟩ := Kd.R_slice hR.row
        obtain ⟨A1, d1, rfl⟩ := Kd.R_slice hR.tops
        have c0 : wr.cell? ⟨w1.heap.size, 0, none⟩ = some _ := cell_blk hR.here 0 _ rfl
        have c1 : wr.cell? ⟨w1.heap.size, 1, none⟩ = some _ := cell_blk hR.here 1 _ rfl
        have c2 : wr.cell? ⟨w1.heap.size, 2, none⟩ = some (.slice Ao 0 co) := cell_blk hR.here 2 _ rfl
        have HR := Aside0.mk hR
        have HB1 := Aside0.mk hB1
        clear hR hB1 hSm
        go_wp2
        go_quiet (fail)
        go_wp2
        exact bodyPost_ret (v := .tuple #[.slice A0 row.length d0, .slice A1 tops.length d1, .int .i64 0, .int .i64 0]) (by simp [results, Tryd.results23, go_sem]) rfl (retF_some HRun.out HR.out HB.out HB1.out rfl rfl)
      | cons o os =>
        obtain ⟨g, cc, Al, cl, vs, rfl, hcn, hE, hown, q0, q1, q2, fg, hbg, hcell, hbase, hlg, hglt⟩ := hR.top
        have c2 : wr.cell? ⟨w1.heap.size, 2, none⟩ = some (.slice (some ⟨g, 0, none⟩) (os.length + 1) cc) := cell_blk hR.here 2 _ rfl
        have hpos : 0 < (toks.length : Int) := by
          rcases Nat.eq_zero_or_pos toks.length with h | h
          · rw [List.eq_nil_of_length_eq_zero h] at HRun
            have := HRun.out
            simp [run] at this
          · omega
        obtain ⟨ad, e, t0, t1, -, -⟩ := at_T30 (Kd.C_below HC.out hB1) ((toks.length : Int) - 1) (by omega) (by omega)
        cases e
        have hk := last_k toks hpos
        have hlq := last_at toks hpos HRun.out
        rw [show ((toks.length : Int) - 1).toNat = toks.length - 1 from by omega] at t0 t1
        generalize rd_T30 toks ((toks.length : Int) - 1) = t at t0 t1 hk hlq
        have HK := Aside0.mk hk
        have HLQ := Aside0.mk hlq
        have HB1 := Aside0.mk hB1
        have wn : IntKind.i64.wrap ((toks.length : Int) - 1) = (toks.length : Int) - 1 := IntWalk.i64_in _ (by omega)
        have i0 : (0 : Int) ≤ (toks.length : Int) - 1 := by omega
        have i1 : (toks.length : Int) - 1 < (toks.length : Int) := by omega
        have i2 : ((toks.length : Int) - 1).toNat = toks.length - 1 := by omega
        have n0 : (0 : Int) ≤ (os.length : Int) := by omega
        have n1 : (os.length : Int) < (os.length : Int) + 1 := by omega
        have n2 : (0 : Int) < (os.length : Int) + 1 := by omega
        have wo : IntKind.i64.wrap (os.length : Int) = (os.length : Int) := IntWalk.i64_in _ (by simp at ho; omega)
        clear hR hB1 hSm hE hown hbg hk hlq hcell fg
        by_cases hq : t.f0 = 3
        · have c0 : (t.f0 == 3) = true := by simpa using hq
          have d0 : decide (t.f0 = 3) = true := decide_eq_true hq
          have HQ := Aside0.mk hq
          clear hq
          go_wp2
          go_quiet (fail)
          go_wp2
          have hop := HLQ.out HQ.out
          rw [← hop]
          exact bodyPost_ret (v := .tuple #[.slice none 0 0, .slice none 0 0, .int .i64 o.p, .int .i64 63]) (by simp [results, Tryd.results23, go_sem]) rfl (ret_open HRun.out t.f0 63 HK.out (if_pos HQ.out) (pw_below_drewN (HB.out.trans (HB1.out.mono HB.out.size)) _))
        · have c0 : (t.f0 == 3) = false := by simpa using hq
          have d0 : decide (t.f0 = 3) = false := decide_eq_false hq
          have HQ := Aside0.mk hq
          clear hq
          go_wp2
          go_quiet (fail)
          go_wp2
          exact bodyPost_ret (v := .tuple #[.slice none 0 0, .slice none 0 0, .int .i64 o.p, .int .i64 60]) (by simp [results, Tryd.results23, go_sem]) rfl (ret_open HRun.out t.f0 60 HK.out (if_neg HQ.out) (pw_below_drewN (HB.out.trans (HB1.out.mono HB.out.size)) _))
end Go.Proofs.YthempkdgmobocaaDoorE
end
