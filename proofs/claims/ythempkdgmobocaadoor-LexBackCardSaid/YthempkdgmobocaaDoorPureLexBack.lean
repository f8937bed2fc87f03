/- LexBack, over numbers and lists: tokens written with a blank between each have the same tokens, and each stands where it says. -/
import Derived.Test.YthempkdgmobocaaDoorM7
import Derived.Test.YthempkdgmobocaaDoorRx2
namespace Go.Proofs.YthempkdgmobocaaDoor.Pure
open Go Go.RowKit Go.Proofs.YthempkdgmobocaaDoorEd Go.Proofs.YthempkdgmobocaaDoorE Go.Proofs.YthempkdgmobocaaDoorX Go.Proofs.YthempkdgmobocaaDoorM Go.Proofs.YthempkdgmobocaaDoor.L Go.Proofs.YthempkdgmobocaaDoor.R
open Go.Proofs.YthempkdgmobocaaDoorW.PrintWords

theorem wrap_succ (i : Nat) (h : i ≤ 1000000) : wrap64 ((i : Int) + 1) = ((i + 1 : Nat) : Int) := by
  rw [YthempkdgmobocaaDoorM.wrap_small _ (by omega) (by omega)]; omega
theorem wrap_add (p n : Int) (h0 : 0 ≤ p) (h1 : p ≤ 1000000) (h2 : 0 ≤ n) (h3 : n ≤ 1000000) : wrap64 (p + n) = p + n :=
  YthempkdgmobocaaDoorM.wrap_small _ (by omega) (by omega)
theorem shown_R : eddywheellaw05_shown.f = some true := by
  have h := YthempkdgmobocaaDoorM.shown_true
  unfold YthempkdgmobocaaDoor.Q.eddywheellaw05_shown.f at h
  unfold eddywheellaw05_shown.f
  exact h
theorem texts_snoc (l : List Tok) (t : Tok) : texts (l ++ [t]) = texts l ++ (text t ++ [32]) := by simp [texts]
theorem placed_snoc (l : List Tok) (t : Tok) : ∀ p, placed p (l ++ [t]) = placed p l ++ [{ t with pos := p + (texts l).length }] := by
  induction l with
  | nil => intro p; simp [placed, texts]
  | cons u l ih =>
    intro p
    have e : ((texts (u :: l)).length : Int) = (text u).length + 1 + (texts l).length := by simp [texts]; omega
    show _ :: placed _ (l ++ [t]) = _ :: placed _ l ++ _
    rw [ih, e]
    simp only [List.cons_append]
    congr 4
    omega
theorem placed_len (l : List Tok) : ∀ p, (placed p l).length = l.length := by
  induction l with
  | nil => intro p; rfl
  | cons t l ih => intro p; simp [placed, ih]
theorem text_le (t : Tok) (h : YthempkdgmobocaaDoorEd.Good t) : (text t).length ≤ 32 := by
  unfold text
  rcases h with ⟨hk, _, _⟩ | ⟨hk, h0, h1, _⟩ | ⟨hk, hn, _⟩ | ⟨hk, _, _, hl, _⟩
  · rcases hk with h | h | h <;> simp [h]
  · have := digits_len t.n h0 h1
    simp [hk]; omega
  · simp [hk]; split <;> simp
  · simp [hk]; exact hl
theorem textT_eq (t : Tok) (h : YthempkdgmobocaaDoorEd.Good t) (x : Int) : textC.f t.kind x t.n ⟨t.s.toArray⟩ = some ⟨(text t).toArray⟩ := by
  unfold textC.f
  have hn : t.n ≤ 9223372036854775807 := by
    rcases h with ⟨_, h, _⟩ | ⟨_, _, h, _⟩ | ⟨_, h | h, _⟩ | ⟨_, h, _⟩ <;> omega
  rw [if_pos hn]
  unfold textT text
  rcases h with ⟨hk, _, _⟩ | ⟨hk, h0, h1, _⟩ | ⟨hk, _, _⟩ | ⟨hk, _⟩
  · rcases hk with h | h | h <;> simp [h]
  · simp only [hk]
    have : ¬ t.n < -4398046511104 := by omega
    simp [digT, this]
  · simp only [hk]
    by_cases h1 : t.n = 1 <;> simp [h1]
  · simp [hk]
theorem texts_le (l : List Tok) (h : ∀ t ∈ l, YthempkdgmobocaaDoorEd.Good t) : (texts l).length ≤ 33 * l.length := by
  induction l with
  | nil => simp [texts]
  | cons t l ih =>
    have h1 := text_le t (h t (List.mem_cons_self ..))
    have h2 := ih fun u hu => h u (List.mem_cons_of_mem _ hu)
    have e : (texts (t :: l)).length = (text t).length + 1 + (texts l).length := by simp [texts]; omega
    simp only [List.length_cons]
    omega

theorem back_end (s : ByteArray) (l : List Tok) (hg : ∀ t ∈ l, YthempkdgmobocaaDoorEd.Good t) (hl : l.length ≤ 1000) (x : ByteArray) (hx : x.data.toList = texts l) (last : Int) (X : List S30) (i : Int) (k : Nat) :
    lBl0 (k + 1) s true x ((placed 0 l).map toS) last X i i = some true := by
  have hs : x.size = x.data.toList.length := by simp
  rw [lBl0, if_neg (by omega)]
  by_cases h4 : (x.size : Int) > 4000
  · rw [if_pos h4]
  rw [if_neg h4]
  have r1 : lexR x = ((placed 0 l).map toS, 0, 0) := by
    unfold lexR
    rw [if_neg (by omega), hx, lexA_texts l hg, fin_ok]
  unfold lexC.f
  rw [Option.bind_some, r1]
  have hp : ((placed 0 l).map toS).length ≤ 1000000 := by rw [List.length_map, placed_len]; omega
  simp only [↓reduceIte]
  rw [sameC_refl _ hp]
  rfl

theorem back_l0 (s : ByteArray) (hs : s.size ≤ 1000) (l : List Tok) (hl : l.length ≤ 1000) (hst : ∀ t ∈ l, Stands s.data.toList 0 t) (hpw : l.Pairwise (fun t u => t.pos < u.pos)) (d : Nat) :
    ∀ (k i : Nat) (last : Int) (x : ByteArray), l.length - i = d → i ≤ l.length → d < k → x.data.toList = texts (l.take i) → (∀ j (h : j < l.length), i ≤ j → last < l[j].pos) →
    lBl0 k s true x ((placed 0 (l.take i)).map toS) last (l.map toS) (l.length : Int) (i : Int) = some true := by
  induction d with
  | zero =>
    intro k i last x hd hi hk hx hlast
    obtain ⟨k, rfl⟩ : ∃ z, k = z + 1 := ⟨k - 1, by omega⟩
    have : i = l.length := by omega
    subst this
    rw [List.take_length] at hx ⊢
    exact back_end s l (fun t ht => (hst t ht).1) hl x hx last _ _ k
  | succ d ih =>
    intro k i last x hd hi hk hx hlast
    obtain ⟨k, rfl⟩ : ∃ z, k = z + 1 := ⟨k - 1, by omega⟩
    have hlt : i < l.length := by omega
    have htk : l.take (i + 1) = l.take i ++ [l[i]] := by rw [List.take_add_one, List.getElem?_eq_getElem hlt]; rfl
    have hmem : l[i] ∈ l := List.getElem_mem hlt
    obtain ⟨hgood, a, w, b, hsp, hpos, hw, hkind⟩ := hst _ hmem
    have hlastnow := hlast i hlt (Nat.le_refl _)
    have hnext : ∀ j (h : j < l.length), i + 1 ≤ j → l[i].pos < l[j].pos := fun j h hij => List.pairwise_iff_getElem.1 hpw i j hlt h (by omega)
    have hxs : x.size = (texts (l.take i)).length := by rw [← hx]; simp
    have hxl := texts_le (l.take i) (fun t ht => (hst t (List.mem_of_mem_take ht)).1)
    have htl : (l.take i).length = i := by simp; omega
    have hss : s.size = s.data.toList.length := by simp
    have hsl := congrArg List.length hsp
    simp only [List.length_append] at hsl
    have hwl : 0 < w.length := List.length_pos_iff.2 hw
    have hpl : ((placed 0 (l.take i)).map toS).length = i := by rw [List.length_map, placed_len, htl]
    generalize ht : l[i] = t at *
    have htx := text_le t hgood
    have htc : ∀ y, textC.f t.kind y t.n ⟨t.s.toArray⟩ = some ⟨(text t).toArray⟩ := fun y => textT_eq t hgood y
    have hsz : (⟨(text t).toArray⟩ : ByteArray).size = (text t).length := by simp [Lib.size_eq]
    have hsz2 : ((⟨(text t).toArray⟩ : ByteArray) ++ (⟨#[32]⟩ : ByteArray)).size = (text t).length + 1 := by rw [ByteArray.size_append, hsz]; rfl
    obtain ⟨T, hT⟩ : ∃ T, T = toS t := ⟨_, rfl⟩
    have hrd : rd_T30 (l.map toS) (i : Int) = T := by
      rw [rd_at _ _ (by simpa using hlt), List.getElem_map, ht, hT]
    have f0 : T.f0 = t.kind := by rw [hT]; rfl
    have f1 : T.f1 = t.pos := by rw [hT]; rfl
    have f2 : T.f2 = t.n := by rw [hT]; rfl
    have f3 : T.f3 = ⟨t.s.toArray⟩ := by rw [hT]; rfl
    have htc : ∀ y, textC.f T.f0 y T.f2 T.f3 = some ⟨(text t).toArray⟩ := fun y => by rw [f0, f2, f3]; exact htc y
    clear hT
    have him : i ≤ 1000000 := by omega
    have g1 : ¬ t.pos ≤ last := by omega
    have g2 : ¬ t.pos ≥ (s.size : Int) := by omega
    have g3 : t.pos + (w.length : Int) ≤ (s.size : Int) := by omega
    have g4 : 0 ≤ t.pos := by omega
    have g5 : t.pos ≤ 1000000 := by omega
    have g6 : (w.length : Int) ≤ 1000000 := by omega
    have c1 : (i : Int) < (l.length : Int) := by omega
    have c2 : 0 ≤ (i : Int) := by omega
    have c3 : (i : Int) < ((l.map toS).length : Int) := by rw [List.length_map]; exact c1
    have c4 : T.f1 ≤ T.f1 + (w.length : Int) := by omega
    have n1 : (T.f1 : Int).toNat = a.length := by omega
    have n2 : (T.f1 + (w.length : Int)).toNat = a.length + w.length := by omega
    have key : lBl0 k s true (x ++ ((⟨(text t).toArray⟩ : ByteArray) ++ (⟨#[32]⟩ : ByteArray))) ((placed 0 (l.take i)).map toS ++ [(⟨T.f0, (x.size : Int), T.f2, T.f3⟩ : S30)]) T.f1 (l.map toS) (l.length : Int) ((i + 1 : Nat) : Int) = some true := by
      rw [f0, f1, f2, f3]
      have e1 : (placed 0 (l.take i)).map toS ++ [(⟨t.kind, (x.size : Int), t.n, ⟨t.s.toArray⟩⟩ : S30)] = (placed 0 (l.take (i + 1))).map toS := by
        rw [htk, placed_snoc, List.map_append]
        simp [toS, hxs]
      rw [e1]
      refine ih k (i + 1) _ _ (by omega) (by omega) (by omega) ?_ hnext
      rw [htk, texts_snoc, append_list, append_list, hx]
    have h5 : (⟨(text t).toArray⟩ : ByteArray).size + 1 ≤ 9223372036854775807 := by rw [hsz]; exact Nat.le_trans (Nat.succ_le_succ htx) (by decide)
    have h6 : x.size + ((⟨(text t).toArray⟩ : ByteArray) ++ (⟨#[32]⟩ : ByteArray)).size ≤ 9223372036854775807 := by
      have h7 : x.size + ((text t).length + 1) ≤ 40000 := by omega
      rw [hsz2]; exact Nat.le_trans h7 (by decide)
    have h8 : ((placed 0 (l.take i)).map toS).length < 3518437208883 := by rw [hpl]; exact Nat.lt_of_le_of_lt (Nat.le_trans hi hl) (by decide)
    rw [lBl0, hrd, if_pos c1, if_pos c2, if_pos c3]
    rw [if_neg (by rw [f1]; exact g1), if_neg (by rw [f1]; exact g2)]
    by_cases h4 : T.f0 = 4
    · rw [if_pos h4, if_pos h8, htc, Option.bind_some, if_pos h5, if_pos h6, wrap_succ i him]
      exact key
    · have hwt : w = text t := by
        rcases hkind with ⟨h, _⟩ | ⟨_, h⟩
        · exact absurd (f0.trans h) h4
        · exact h
      have hw64 : wrap64 (T.f1 + ((⟨(text t).toArray⟩ : ByteArray).size : Int)) = T.f1 + (w.length : Int) := by
        rw [hsz, ← hwt, f1]; exact wrap_add _ _ g4 g5 (Int.natCast_nonneg _) g6
      have hex : (s.extract (T.f1 : Int).toNat (T.f1 + (w.length : Int)).toNat).toList = (⟨(text t).toArray⟩ : ByteArray).toList := by
        rw [n1, n2, Lib.toList_data, Lib.toList_data, Lib.extract_data, hsp]
        simp [hwt]
      rw [if_neg h4, htc, Option.bind_some, hw64, if_neg (by rw [f1]; exact Int.not_lt.2 g3), Option.bind_some, if_pos (by rw [f1]; exact g4), hw64, if_pos c4, if_pos (by rw [f1]; exact g3), Option.bind_some, if_pos hex,
        if_pos h8, htc, Option.bind_some, if_pos h5, if_pos h6, wrap_succ i him]
      exact key

theorem LexBack : eddywheellaw05_LexBack.Pure := by
  intro s hsz
  refine ⟨1200, ?_⟩
  unfold eddywheellaw05_LexBack.f
  rw [shown_R, Option.bind_some]
  by_cases h1 : (s.size : Int) > 1000
  · rw [if_pos h1]
  rw [if_neg h1]
  have hss : s.data.toList.length = s.size := by simp
  have r1 : lexR s = fin [] (lexA s.data.toList 0) := by unfold lexR; rw [if_neg (by omega)]
  unfold lexC.f
  rw [Option.bind_some, r1]
  cases hl : lexA s.data.toList 0 with
  | error z =>
    obtain ⟨q, e⟩ := z
    have he := lexA_err _ _ _ _ hl
    simp only [fin, he.1, ↓reduceIte]
    rfl
  | ok l =>
    have hlen := lexA_len _ _ _ hl
    have hst := lexA_stands _ _ _ hl
    simp only [fin_ok, ↓reduceIte, List.length_map]
    have := back_l0 s (by omega) l (by omega) hst.1 hst.2 _ 1200 0 (-1) ⟨#[]⟩ rfl (by omega) (by omega) rfl (by
      intro j h _
      obtain ⟨_, a, w, b, _, hp, _⟩ := hst.1 _ (List.getElem_mem h)
      omega)
    exact this
end Go.Proofs.YthempkdgmobocaaDoor.Pure
