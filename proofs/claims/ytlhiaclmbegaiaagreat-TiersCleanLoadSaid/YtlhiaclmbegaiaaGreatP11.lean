/- DERIVED. Plain laws, part 11: what the tiers' functions find, and what is left when a shelf is cleaned, is what the reference finds and leaves. -/
import Derived.Test.YtlhiaclmbegaiaaGreatP10
set_option linter.unusedVariables false
set_option linter.unusedSimpArgs false
namespace Go.Abs
open Go

/-! ### Segments of a manifest -/
def seg0 : S_SegmentInfo := ⟨0, 0, 0, 0, 0, 0, 0⟩
def findSeg (m : S_Manifest) (id : Int) : S_SegmentInfo × Bool :=
  match m.Segments.find? fun s => s.ID == id with
  | some s => (s, true)
  | none => (seg0, false)
theorem find_at {l : List S_SegmentInfo} {id i : Int} (h : 0 ≤ i ∧ i < (l.length : Int)) (he : (l.getD i.toNat default).ID = id) (hn : ∀ x ∈ l.take i.toNat, x.ID ≠ id) : (l.find? fun s => s.ID == id) = some (l.getD i.toNat default) := by
  rw [List.find?_eq_some_iff_append]
  refine ⟨by simpa using he, l.take i.toNat, l.drop (i + 1).toNat, ?_, fun a ha => by simpa using hn a ha⟩
  rw [← drop_getD h, List.take_append_drop]
theorem find_no {l : List S_SegmentInfo} {id : Int} (hn : ∀ x ∈ l, x.ID ≠ id) : (l.find? fun s => s.ID == id) = none := by
  rw [List.find?_eq_none]
  intro x hx
  simpa using hn x hx
theorem take_snoc {α : Type} {l : List α} {i : Int} {d : α} {R : α → Prop} (h : 0 ≤ i ∧ i < (l.length : Int)) (hn : ∀ x ∈ l.take i.toNat, R x) (hx : R (l.getD i.toNat d)) : ∀ x ∈ l.take (i + 1).toNat, R x := by
  intro x hm
  rw [take_getD (d := d) h] at hm
  rcases List.mem_append.1 hm with hm | hm
  · exact hn x hm
  · simp only [List.mem_singleton] at hm
    subst hm
    exact hx

theorem mFind_W {m : S_Manifest} {id : Int} (h : m.Segments.length ≤ 1000000) : F_manifest_Find m id = some (findSeg m id) := by
  refine Wp.eq ?_
  simp only [F_manifest_Find, F_manifest_index, F_slices_IndexFunc_api_SegmentInfo_api_SegmentInfo_w_manifest_index_1, Wp_some, Wp_gd, Wp_cond, Wp_bd, Wp_bnd, Wp_bindE, Sum.elim_inl, Sum.elim_inr, condO, condA, decide_eq_true_eq, decide_eq_false_iff_not, Bool.or_eq_true, Bool.or_eq_false_iff, Bool.and_eq_true, Bool.and_eq_false_iff, Bool.not_eq_true', Bool.not_eq_false', bne_iff_ne, bne_eq_false_iff_eq, beq_iff_eq, beq_eq_false_iff_ne, true_and, and_true, Int.not_lt, Int.not_le, ne_eq, not_false_eq_true, implies_true, forall_const, gt_iff_lt, ge_iff_le]
  refine Wp_loop (fun j => 0 ≤ j ∧ j ≤ (m.Segments.length : Int) ∧ ∀ x ∈ m.Segments.take j.toNat, x.ID ≠ id) (fun j => ((m.Segments.length : Int) - j).toNat) ⟨Int.le_refl _, by omega, by simp⟩ ?_
  rintro i ⟨k1, k2, k3⟩
  simp only [L_slices_IndexFunc_api_SegmentInfo_api_SegmentInfo_w_manifest_index_1_2, F_manifest_index_1, Wp_some, Wp_gd, Wp_cond, Wp_bd, Wp_bnd, Wp_bindE, Sum.elim_inl, Sum.elim_inr, condO, condA, decide_eq_true_eq, decide_eq_false_iff_not, Bool.or_eq_true, Bool.or_eq_false_iff, Bool.and_eq_true, Bool.and_eq_false_iff, Bool.not_eq_true', Bool.not_eq_false', bne_iff_ne, bne_eq_false_iff_eq, beq_iff_eq, beq_eq_false_iff_ne, true_and, and_true, Int.not_lt, Int.not_le, ne_eq, not_false_eq_true, implies_true, forall_const, gt_iff_lt, ge_iff_le]
  rw [w64 (x := i + 1) (by omega)]
  refine ⟨fun hi => ⟨⟨k1, hi⟩, fun he => ⟨fun q => by omega, fun _ => ⟨⟨k1, hi⟩, ?_⟩⟩, fun he => ⟨⟨by omega, by omega, take_snoc ⟨k1, hi⟩ k3 he⟩, by omega⟩⟩, fun hi => ⟨fun _ => ?_, fun q => by omega⟩⟩
  · unfold findSeg
    rw [find_at ⟨k1, hi⟩ he k3]
  · unfold findSeg
    rw [List.take_of_length_le (by omega)] at k3
    rw [find_no k3]
    rfl

theorem rFind_W {m : S_Manifest} {id : Int} (h : m.Segments.length ≤ 1000000) : F_r30_Find m id = some (findSeg m id) := by
  refine Wp.eq ?_
  simp only [F_r30_Find, F_r30_index, Wp_some, Wp_gd, Wp_cond, Wp_bd, Wp_bnd, Wp_bindE, Sum.elim_inl, Sum.elim_inr, condO, condA, decide_eq_true_eq, decide_eq_false_iff_not, Bool.or_eq_true, Bool.or_eq_false_iff, Bool.and_eq_true, Bool.and_eq_false_iff, Bool.not_eq_true', Bool.not_eq_false', bne_iff_ne, bne_eq_false_iff_eq, beq_iff_eq, beq_eq_false_iff_ne, true_and, and_true, Int.not_lt, Int.not_le, ne_eq, not_false_eq_true, implies_true, forall_const, gt_iff_lt, ge_iff_le]
  refine Wp_loop (fun j => 0 ≤ j ∧ j ≤ (m.Segments.length : Int) ∧ ∀ x ∈ m.Segments.take j.toNat, x.ID ≠ id) (fun j => ((m.Segments.length : Int) - j).toNat) ⟨Int.le_refl _, by omega, by simp⟩ ?_
  rintro i ⟨k1, k2, k3⟩
  simp only [L_r30_index_2, Wp_some, Wp_gd, Wp_cond, Wp_bd, Wp_bnd, Wp_bindE, Sum.elim_inl, Sum.elim_inr, condO, condA, decide_eq_true_eq, decide_eq_false_iff_not, Bool.or_eq_true, Bool.or_eq_false_iff, Bool.and_eq_true, Bool.and_eq_false_iff, Bool.not_eq_true', Bool.not_eq_false', bne_iff_ne, bne_eq_false_iff_eq, beq_iff_eq, beq_eq_false_iff_ne, true_and, and_true, Int.not_lt, Int.not_le, ne_eq, not_false_eq_true, implies_true, forall_const, gt_iff_lt, ge_iff_le]
  rw [w64 (x := i + 1) (by omega)]
  refine ⟨fun hi => ⟨⟨k1, hi⟩, fun he => ⟨fun _ => ⟨⟨k1, hi⟩, ?_⟩, fun q => by omega⟩, fun he => ⟨⟨by omega, by omega, take_snoc ⟨k1, hi⟩ k3 he⟩, by omega⟩⟩, fun hi => ⟨fun q => by omega, fun _ => ?_⟩⟩
  · unfold findSeg
    rw [find_at ⟨k1, hi⟩ he k3]
  · unfold findSeg
    rw [List.take_of_length_le (by omega)] at k3
    rw [find_no k3]
    rfl

/-! ### Cleaning a shelf -/
def keep (m : S_Manifest) (x : S_Blob) : Bool := (findSeg m x.ID).2 && (findSeg m x.ID).1.Tier == x.Tier

theorem rClean_W {l : List S_Blob} {m : S_Manifest} (h : m.Segments.length ≤ 1000000) (hl : l.length ≤ 1000000) : F_r33_Clean l m = some (l.filter (keep m)) := by
  refine Wp.eq ?_
  simp only [F_r33_Clean, Wp_some, Wp_gd, Wp_cond, Wp_bd, Wp_bnd, Wp_bindE, Sum.elim_inl, Sum.elim_inr, condO, condA, decide_eq_true_eq, decide_eq_false_iff_not, Bool.or_eq_true, Bool.or_eq_false_iff, Bool.and_eq_true, Bool.and_eq_false_iff, Bool.not_eq_true', Bool.not_eq_false', bne_iff_ne, bne_eq_false_iff_eq, beq_iff_eq, beq_eq_false_iff_ne, true_and, and_true, Int.not_lt, Int.not_le, ne_eq, not_false_eq_true, implies_true, forall_const, gt_iff_lt, ge_iff_le]
  refine Wp_loop (fun j => 0 ≤ j.1 ∧ j.1 ≤ (l.length : Int) ∧ j.2 = (l.take j.1.toNat).filter (keep m)) (fun j => ((l.length : Int) - j.1).toNat) ⟨Int.le_refl _, by show (0 : Int) ≤ _; omega, by simp⟩ ?_
  rintro ⟨i, a⟩ ⟨k1, k2, k3⟩
  dsimp only at k1 k2 k3
  subst k3
  have hlen : ((l.take i.toNat).filter (keep m)).length ≤ l.length := Nat.le_trans (List.length_filter_le _ _) (by simp; omega)
  simp only [L_r33_Clean_2, Wp_some, Wp_gd, Wp_cond, Wp_bd, Wp_bnd, Wp_bindE, Sum.elim_inl, Sum.elim_inr, condO, condA, decide_eq_true_eq, decide_eq_false_iff_not, Bool.or_eq_true, Bool.or_eq_false_iff, Bool.and_eq_true, Bool.and_eq_false_iff, Bool.not_eq_true', Bool.not_eq_false', bne_iff_ne, bne_eq_false_iff_eq, beq_iff_eq, beq_eq_false_iff_ne, true_and, and_true, Int.not_lt, Int.not_le, ne_eq, not_false_eq_true, implies_true, forall_const, gt_iff_lt, ge_iff_le, rFind_W h]
  rw [w64 (x := i + 1) (by omega)]
  refine ⟨fun hi => ⟨⟨k1, hi⟩, fun _ => ⟨k1, hi⟩, fun q => ⟨by omega, ⟨by omega, by omega, ?_⟩, by omega⟩, fun q => ⟨⟨by omega, by omega, ?_⟩, by omega⟩⟩, fun hi => by rw [List.take_of_length_le (by omega)]⟩
  · rw [take_getD (d := default) ⟨k1, hi⟩, List.filter_append, List.filter_cons_of_pos]
    · rfl
    · simpa [keep] using q
  · rw [take_getD (d := default) ⟨k1, hi⟩, List.filter_append, List.filter_cons_of_neg]
    · simp
    · simp only [keep, Bool.and_eq_true, beq_iff_eq]
      rintro ⟨a, b⟩
      rcases q with q | q
      · rw [q] at a
        cases a
      · exact q b

theorem Clone_W {l : List S_Blob} (hl : l.length ≤ 1000000) : F_slices_Clone_api_Blob_api_Blob l = some l := by
  refine Wp.eq ?_
  unfold F_slices_Clone_api_Blob_api_Blob
  refine Wp_eqn (fun h => ?_) ?_
  · have : l = [] := List.length_eq_zero_iff.1 h
    subst this
    rfl
  · simp only [cond_false, Wp_some, Wp_gd, Wp_cond, Wp_bd, Wp_bnd, Wp_bindE, Sum.elim_inl, Sum.elim_inr, condO, condA, decide_eq_true_eq, decide_eq_false_iff_not, Bool.or_eq_true, Bool.or_eq_false_iff, Bool.and_eq_true, Bool.and_eq_false_iff, Bool.not_eq_true', Bool.not_eq_false', bne_iff_ne, bne_eq_false_iff_eq, beq_iff_eq, beq_eq_false_iff_ne, true_and, and_true, Int.not_lt, Int.not_le, ne_eq, not_false_eq_true, implies_true, forall_const, gt_iff_lt, ge_iff_le, List.nil_append, List.length_nil]
    omega

theorem Clean1_W {x : S_Blob} {m : S_Manifest} (h : m.Segments.length ≤ 1000000) : F_tiers_Clean_1 x m = some (!keep m x) := by
  refine Wp.eq ?_
  simp only [F_tiers_Clean_1, mFind_W h, Wp_some, Wp_gd, Wp_cond, Wp_bd, Wp_bnd, Wp_bindE, Sum.elim_inl, Sum.elim_inr, condO, condA, decide_eq_true_eq, decide_eq_false_iff_not, Bool.or_eq_true, Bool.or_eq_false_iff, Bool.and_eq_true, Bool.and_eq_false_iff, Bool.not_eq_true', Bool.not_eq_false', bne_iff_ne, bne_eq_false_iff_eq, beq_iff_eq, beq_eq_false_iff_ne, true_and, and_true, Int.not_lt, Int.not_le, ne_eq, not_false_eq_true, implies_true, forall_const, gt_iff_lt, ge_iff_le, keep]
  cases (findSeg m x.ID).2 <;> simp [bne]

theorem IndexB_W {l : List S_Blob} {m : S_Manifest} (h : m.Segments.length ≤ 1000000) (hl : l.length ≤ 1000000) :
    Wp (F_slices_IndexFunc_api_Blob_api_Blob_w_tiers_Clean_1 l m) fun r => (r = -1 ∧ l.filter (keep m) = l) ∨ (0 ≤ r ∧ r < (l.length : Int) ∧ keep m (l.getD r.toNat default) = false ∧ (l.take r.toNat).filter (keep m) = l.take r.toNat) := by
  simp only [F_slices_IndexFunc_api_Blob_api_Blob_w_tiers_Clean_1, Wp_some, Wp_gd, Wp_cond, Wp_bd, Wp_bnd, Wp_bindE, Sum.elim_inl, Sum.elim_inr, condO, condA, decide_eq_true_eq, decide_eq_false_iff_not, Bool.or_eq_true, Bool.or_eq_false_iff, Bool.and_eq_true, Bool.and_eq_false_iff, Bool.not_eq_true', Bool.not_eq_false', bne_iff_ne, bne_eq_false_iff_eq, beq_iff_eq, beq_eq_false_iff_ne, true_and, and_true, Int.not_lt, Int.not_le, ne_eq, not_false_eq_true, implies_true, forall_const, gt_iff_lt, ge_iff_le]
  refine Wp_loop (fun j => 0 ≤ j ∧ j ≤ (l.length : Int) ∧ ∀ x ∈ l.take j.toNat, keep m x = true) (fun j => ((l.length : Int) - j).toNat) ⟨Int.le_refl _, by omega, by simp⟩ ?_
  rintro i ⟨k1, k2, k3⟩
  simp only [L_slices_IndexFunc_api_Blob_api_Blob_w_tiers_Clean_1_2, Clean1_W h, Wp_some, Wp_gd, Wp_cond, Wp_bd, Wp_bnd, Wp_bindE, Sum.elim_inl, Sum.elim_inr, condO, condA, decide_eq_true_eq, decide_eq_false_iff_not, Bool.or_eq_true, Bool.or_eq_false_iff, Bool.and_eq_true, Bool.and_eq_false_iff, Bool.not_eq_true', Bool.not_eq_false', bne_iff_ne, bne_eq_false_iff_eq, beq_iff_eq, beq_eq_false_iff_ne, true_and, and_true, Int.not_lt, Int.not_le, ne_eq, not_false_eq_true, implies_true, forall_const, gt_iff_lt, ge_iff_le]
  rw [w64 (x := i + 1) (by omega)]
  refine ⟨fun hi => ⟨⟨k1, hi⟩, fun q => .inr ⟨k1, hi, q, List.filter_eq_self.2 k3⟩, fun q => ⟨⟨by omega, by omega, take_snoc ⟨k1, hi⟩ k3 q⟩, by omega⟩⟩, fun hi => ?_⟩
  rw [List.take_of_length_le (by omega)] at k3
  exact .inl (List.filter_eq_self.2 k3)

theorem Delete_W {l : List S_Blob} {m : S_Manifest} (h : m.Segments.length ≤ 1000000) (hl : l.length ≤ 1000000) :
    F_slices_DeleteFunc_api_Blob_api_Blob_w_tiers_Clean_1 l m = some (l.filter (keep m)) := by
  refine Wp.eq ?_
  simp only [F_slices_DeleteFunc_api_Blob_api_Blob_w_tiers_Clean_1, Wp_some, Wp_gd, Wp_cond, Wp_bd, Wp_bnd, Wp_bindE, Sum.elim_inl, Sum.elim_inr, condO, condA, decide_eq_true_eq, decide_eq_false_iff_not, Bool.or_eq_true, Bool.or_eq_false_iff, Bool.and_eq_true, Bool.and_eq_false_iff, Bool.not_eq_true', Bool.not_eq_false', bne_iff_ne, bne_eq_false_iff_eq, beq_iff_eq, beq_eq_false_iff_ne, true_and, and_true, Int.not_lt, Int.not_le, ne_eq, not_false_eq_true, implies_true, forall_const, gt_iff_lt, ge_iff_le]
  refine (IndexB_W h hl).mono fun r hr => ⟨fun q => ?_, fun q => ?_⟩
  · rcases hr with ⟨_, e⟩ | hr
    · exact e.symm
    · omega
  · rcases hr with ⟨e, _⟩ | ⟨h1, h2, h3, h4⟩
    · exact absurd e q
    rw [w64 (x := r + 1) (by omega)]
    refine Wp_loop (fun j => 0 ≤ j.1 ∧ j.1 < j.2.1 ∧ j.2.1 ≤ (l.length : Int) ∧ j.2.2.length = l.length ∧ j.2.2.take j.1.toNat = (l.take j.2.1.toNat).filter (keep m) ∧ j.2.2.drop j.2.1.toNat = l.drop j.2.1.toNat) (fun j => ((l.length : Int) - j.2.1).toNat)
      ⟨h1, by show r < r + 1; omega, by show r + 1 ≤ _; omega, rfl, ?_, rfl⟩ ?_
    · show l.take r.toNat = (l.take (r + 1).toNat).filter (keep m)
      rw [take_getD (d := default) ⟨h1, h2⟩, List.filter_append, h4, List.filter_cons_of_neg (by rw [h3]; decide)]
      simp
    rintro ⟨i, j, x⟩ ⟨k1, k2, k3, k4, k5, k6⟩
    dsimp only at k1 k2 k3 k4 k5 k6
    simp only [L_slices_DeleteFunc_api_Blob_api_Blob_w_tiers_Clean_1_2, Clean1_W h, Wp_some, Wp_gd, Wp_cond, Wp_bd, Wp_bnd, Wp_bindE, Sum.elim_inl, Sum.elim_inr, condO, condA, decide_eq_true_eq, decide_eq_false_iff_not, Bool.or_eq_true, Bool.or_eq_false_iff, Bool.and_eq_true, Bool.and_eq_false_iff, Bool.not_eq_true', Bool.not_eq_false', bne_iff_ne, bne_eq_false_iff_eq, beq_iff_eq, beq_eq_false_iff_ne, true_and, and_true, Int.not_lt, Int.not_le, ne_eq, not_false_eq_true, implies_true, forall_const, gt_iff_lt, ge_iff_le]
    rw [w64 (x := i + 1) (by omega), w64 (x := j + 1) (by omega)]
    have hxj : j < (l.length : Int) → x.getD j.toNat default = l.getD j.toNat default := by
      intro hj
      have e1 := drop_getD (d := (default : S_Blob)) (l := x) (i := j) (by omega)
      have e2 := drop_getD (d := (default : S_Blob)) (l := l) (i := j) (by omega)
      rw [k6, e2] at e1
      exact (List.cons.inj e1).1.symm
    have hd : j < (l.length : Int) → x.drop (j + 1).toNat = l.drop (j + 1).toNat := by
      intro hj
      have e1 := drop_getD (d := (default : S_Blob)) (l := x) (i := j) (by omega)
      have e2 := drop_getD (d := (default : S_Blob)) (l := l) (i := j) (by omega)
      rw [k6, e2] at e1
      exact (List.cons.inj e1).2.symm
    have hov : (ovr x i.toNat (List.replicate ((x.length : Int).toNat - i.toNat) (⟨0, 0, []⟩ : S_Blob))).length = x.length := ovr_length (by simp; omega)
    refine ⟨fun hj => ⟨⟨by omega, hj⟩, fun q => ⟨by omega, ⟨by omega, by omega, by omega, by simpa using k4, ?_, ?_⟩, by omega⟩, fun q => ⟨⟨by omega, by omega, by omega, k4, ?_, hd (by omega)⟩, by omega⟩⟩, fun hj => ⟨by omega, by omega, ?_⟩⟩
    · have hj' : j < (l.length : Int) := by omega
      rw [hxj hj'] at q ⊢
      rw [take_getD (d := default) ⟨by omega, hj'⟩, List.filter_append, List.filter_cons_of_pos q, ← k5, List.filter_nil]
      have e := take_getD (d := (default : S_Blob)) (l := x.set i.toNat (l.getD j.toNat default)) (i := i) (by simp; omega)
      rw [e, List.take_set_of_le (by omega), getD_get (by simp; omega), List.getElem_set_self]
    · have hj' : j < (l.length : Int) := by omega
      rw [List.drop_set_of_lt (by omega)]
      exact hd hj'
    · have hj' : j < (l.length : Int) := by omega
      rw [hxj hj'] at q
      rw [take_getD (d := default) ⟨by omega, hj'⟩, List.filter_append, List.filter_cons_of_neg (by rw [q]; decide), ← k5]
      simp
    · have ht : (x.take i.toNat).length = i.toNat := by simp; omega
      unfold ovr
      rw [Nat.sub_zero, List.append_assoc, List.take_append_of_le_length (by omega), List.take_of_length_le (by omega), k5, List.take_of_length_le (by omega)]

theorem tClean_W {l : List S_Blob} {m : S_Manifest} (h : m.Segments.length ≤ 1000000) (hl : l.length ≤ 1000000) : F_tiers_Clean l m = some (l.filter (keep m)) := by
  refine Wp.eq ?_
  simp only [F_tiers_Clean, Clone_W hl, Delete_W h hl, Wp_some, Wp_gd, Wp_cond, Wp_bd, Wp_bnd, Wp_bindE, Sum.elim_inl, Sum.elim_inr, condO, condA, decide_eq_true_eq, decide_eq_false_iff_not, Bool.or_eq_true, Bool.or_eq_false_iff, Bool.and_eq_true, Bool.and_eq_false_iff, Bool.not_eq_true', Bool.not_eq_false', bne_iff_ne, bne_eq_false_iff_eq, beq_iff_eq, beq_eq_false_iff_ne, true_and, and_true, Int.not_lt, Int.not_le, ne_eq, not_false_eq_true, implies_true, forall_const, gt_iff_lt, ge_iff_le]

/-! ### Equal shelves -/
theorem SameB_W {l : List Int} (hl : l.length ≤ 140737488355328) : F_r23_SameBytes l l = some true := by
  refine Wp.eq ?_
  simp only [F_r23_SameBytes, Wp_some, Wp_gd, Wp_cond, Wp_bd, Wp_bnd, Wp_bindE, Sum.elim_inl, Sum.elim_inr, condO, condA, decide_eq_true_eq, decide_eq_false_iff_not, Bool.or_eq_true, Bool.or_eq_false_iff, Bool.and_eq_true, Bool.and_eq_false_iff, Bool.not_eq_true', Bool.not_eq_false', bne_iff_ne, bne_eq_false_iff_eq, beq_iff_eq, beq_eq_false_iff_ne, true_and, and_true, Int.not_lt, Int.not_le, ne_eq, not_false_eq_true, implies_true, forall_const, gt_iff_lt, ge_iff_le]
  refine ⟨fun h => absurd trivial h, ?_⟩
  refine Wp_loop (fun j => 0 ≤ j ∧ j ≤ (l.length : Int)) (fun j => ((l.length : Int) - j).toNat) ⟨Int.le_refl _, by omega⟩ ?_
  rintro i ⟨k1, k2⟩
  simp only [L_r23_SameBytes_2, Wp_some, Wp_gd, Wp_cond, Wp_bd, Wp_bnd, Wp_bindE, Sum.elim_inl, Sum.elim_inr, condO, condA, decide_eq_true_eq, decide_eq_false_iff_not, Bool.or_eq_true, Bool.or_eq_false_iff, Bool.and_eq_true, Bool.and_eq_false_iff, Bool.not_eq_true', Bool.not_eq_false', bne_iff_ne, bne_eq_false_iff_eq, beq_iff_eq, beq_eq_false_iff_ne, true_and, and_true, Int.not_lt, Int.not_le, ne_eq, not_false_eq_true, implies_true, forall_const, gt_iff_lt, ge_iff_le]
  rw [w64 (x := i + 1) (by omega)]
  exact fun hi => ⟨⟨k1, hi⟩, ⟨k1, hi⟩, fun q => absurd trivial q, by omega⟩
theorem SameS_W {l : List S_Blob} {n : Int} (h : ShOk l n) (hn : n ≤ 1000000) : F_r33_Same l l = some true := by
  have hlen := h.len
  refine Wp.eq ?_
  simp only [F_r33_Same, Wp_some, Wp_gd, Wp_cond, Wp_bd, Wp_bnd, Wp_bindE, Sum.elim_inl, Sum.elim_inr, condO, condA, decide_eq_true_eq, decide_eq_false_iff_not, Bool.or_eq_true, Bool.or_eq_false_iff, Bool.and_eq_true, Bool.and_eq_false_iff, Bool.not_eq_true', Bool.not_eq_false', bne_iff_ne, bne_eq_false_iff_eq, beq_iff_eq, beq_eq_false_iff_ne, true_and, and_true, Int.not_lt, Int.not_le, ne_eq, not_false_eq_true, implies_true, forall_const, gt_iff_lt, ge_iff_le]
  refine ⟨fun h => absurd trivial h, ?_⟩
  refine Wp_loop (fun j => 0 ≤ j ∧ j ≤ (l.length : Int)) (fun j => ((l.length : Int) - j).toNat) ⟨Int.le_refl _, by omega⟩ ?_
  rintro i ⟨k1, k2⟩
  simp only [L_r33_Same_2, Wp_some, Wp_gd, Wp_cond, Wp_bd, Wp_bnd, Wp_bindE, Sum.elim_inl, Sum.elim_inr, condO, condA, decide_eq_true_eq, decide_eq_false_iff_not, Bool.or_eq_true, Bool.or_eq_false_iff, Bool.and_eq_true, Bool.and_eq_false_iff, Bool.not_eq_true', Bool.not_eq_false', bne_iff_ne, bne_eq_false_iff_eq, beq_iff_eq, beq_eq_false_iff_ne, true_and, and_true, Int.not_lt, Int.not_le, ne_eq, not_false_eq_true, implies_true, forall_const, gt_iff_lt, ge_iff_le]
  intro hi
  have hb := getD_int (d := default) h.ok ⟨k1, hi⟩
  rw [w64 (x := i + 1) (by omega), SameB_W (by have := hb.1; omega)]
  simp only [Wp_some, Wp_gd, Wp_cond, Wp_bd, Wp_bnd, Wp_bindE, Sum.elim_inl, Sum.elim_inr, condO, condA, decide_eq_true_eq, decide_eq_false_iff_not, Bool.or_eq_true, Bool.or_eq_false_iff, Bool.and_eq_true, Bool.and_eq_false_iff, Bool.not_eq_true', Bool.not_eq_false', bne_iff_ne, bne_eq_false_iff_eq, beq_iff_eq, beq_eq_false_iff_ne, true_and, and_true, Int.not_lt, Int.not_le, ne_eq, not_false_eq_true, implies_true, forall_const, gt_iff_lt, ge_iff_le]
  have c : ¬ (¬ True ∨ ¬ True) := by simp
  exact ⟨⟨k1, hi⟩, ⟨k1, hi⟩, ⟨k1, hi⟩, ⟨k1, hi⟩, ⟨k1, hi⟩, ⟨k1, hi⟩, ⟨fun q => q.elim (fun z => absurd z c) (fun z => Bool.noConfusion z), by omega⟩, fun z => absurd z c⟩
end Go.Abs
