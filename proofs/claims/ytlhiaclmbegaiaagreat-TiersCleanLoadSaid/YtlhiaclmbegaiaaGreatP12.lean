/- DERIVED. Plain laws, part 12: a blob is found at the same place by both searches. -/
import Derived.Test.YtlhiaclmbegaiaaGreatP11
set_option linter.unusedVariables false
set_option linter.unusedSimpArgs false
namespace Go.Abs
open Go

theorem cmpInt_W (a b : Int) : F_cmp_Compare_int a b = some (if a < b then -1 else if b < a then 1 else 0) := by
  refine Wp.eq ?_
  simp only [F_cmp_Compare_int, F_cmp_isNaN_int, Wp_some, Wp_gd, Wp_cond, Wp_bd, Wp_bnd, Wp_bindE, Sum.elim_inl, Sum.elim_inr, condO, condA, decide_eq_true_eq, decide_eq_false_iff_not, Bool.or_eq_true, Bool.or_eq_false_iff, Bool.and_eq_true, Bool.and_eq_false_iff, Bool.not_eq_true', Bool.not_eq_false', bne_iff_ne, bne_eq_false_iff_eq, beq_iff_eq, beq_eq_false_iff_ne, true_and, and_true, Int.not_lt, Int.not_le, ne_eq, not_false_eq_true, implies_true, forall_const, gt_iff_lt, ge_iff_le]
  refine ⟨fun h => absurd trivial h, fun h => absurd trivial h, fun h => ?_, fun h => ⟨fun h2 => ?_, fun h2 => ?_⟩⟩
  · rw [if_pos h]
  · rw [if_neg (by omega), if_pos h2]
  · rw [if_neg (by omega), if_neg (by omega)]

theorem cmpOr_W (a b : Int) : F_cmp_Or_int [a, b] = some (if a = 0 then b else a) := by
  refine Wp.eq ?_
  simp only [F_cmp_Or_int, Wp_some, Wp_gd, Wp_cond, Wp_bd, Wp_bnd, Wp_bindE, Sum.elim_inl, Sum.elim_inr, condO, condA, decide_eq_true_eq, decide_eq_false_iff_not, Bool.or_eq_true, Bool.or_eq_false_iff, Bool.and_eq_true, Bool.and_eq_false_iff, Bool.not_eq_true', Bool.not_eq_false', bne_iff_ne, bne_eq_false_iff_eq, beq_iff_eq, beq_eq_false_iff_ne, true_and, and_true, Int.not_lt, Int.not_le, ne_eq, not_false_eq_true, implies_true, forall_const, gt_iff_lt, ge_iff_le]
  refine Wp_loop (fun j => j = 0 ∨ (j = 1 ∧ a = 0) ∨ (j = 2 ∧ a = 0 ∧ b = 0)) (fun j => (2 - j).toNat) (.inl rfl) ?_
  rintro i h
  simp only [L_cmp_Or_int_2, Wp_some, Wp_gd, Wp_cond, Wp_bd, Wp_bnd, Wp_bindE, Sum.elim_inl, Sum.elim_inr, condO, condA, decide_eq_true_eq, decide_eq_false_iff_not, Bool.or_eq_true, Bool.or_eq_false_iff, Bool.and_eq_true, Bool.and_eq_false_iff, Bool.not_eq_true', Bool.not_eq_false', bne_iff_ne, bne_eq_false_iff_eq, beq_iff_eq, beq_eq_false_iff_ne, true_and, and_true, Int.not_lt, Int.not_le, ne_eq, not_false_eq_true, implies_true, forall_const, gt_iff_lt, ge_iff_le, List.length_cons, List.length_nil]
  rcases h with h | ⟨h, h2⟩ | ⟨h, h2, h3⟩
  · subst h
    refine ⟨fun _ => ⟨by decide, fun q => ?_, fun q => ?_⟩, fun q => by omega⟩
    · show a = _
      have : ¬ a = 0 := q
      rw [if_neg this]
    · have : a = 0 := q
      rw [w64 (x := 0 + 1) (by decide)]
      omega
  · subst h
    subst h2
    refine ⟨fun _ => ⟨by decide, fun q => ?_, fun q => ?_⟩, fun q => by omega⟩
    · rw [if_pos rfl]
      rfl
    · have : b = 0 := q
      rw [w64 (x := 1 + 1) (by decide)]
      omega
  · subst h
    subst h2
    subst h3
    refine ⟨fun q => by omega, fun _ => ?_⟩
    rfl

theorem find1_W (a b : S_Blob) : Wp (F_tiers_find_1 a b) fun r => (r < 0 ↔ kB a b.ID b.Tier) ∧ (r = 0 ↔ a.ID = b.ID ∧ a.Tier = b.Tier) := by
  simp only [F_tiers_find_1, cmpInt_W, cmpOr_W, Wp_some, Wp_gd, Wp_cond, Wp_bd, Wp_bnd, Wp_bindE, Sum.elim_inl, Sum.elim_inr, condO, condA, decide_eq_true_eq, decide_eq_false_iff_not, Bool.or_eq_true, Bool.or_eq_false_iff, Bool.and_eq_true, Bool.and_eq_false_iff, Bool.not_eq_true', Bool.not_eq_false', bne_iff_ne, bne_eq_false_iff_eq, beq_iff_eq, beq_eq_false_iff_ne, true_and, and_true, Int.not_lt, Int.not_le, ne_eq, not_false_eq_true, implies_true, forall_const, gt_iff_lt, ge_iff_le]
  unfold kB
  refine ⟨?_, ?_⟩
  · split <;> split <;> (try split) <;> (try split) <;> omega
  · split <;> split <;> (try split) <;> (try split) <;> omega

theorem tfind_W {l : List S_Blob} {id t : Int} (hs : l.Pairwise bLt) (hl : l.length ≤ 1000000) : Wp (F_tiers_find l id t) fun r => Cut l id t r.1 ∧ (r.2 = true ↔ hitAt l id t r.1) := by
  simp only [F_tiers_find, F_slices_BinarySearchFunc_api_Blob_api_Blob_api_Blob_w_tiers_find_1, Wp_some, Wp_gd, Wp_cond, Wp_bd, Wp_bnd, Wp_bindE, Sum.elim_inl, Sum.elim_inr, condO, condA, decide_eq_true_eq, decide_eq_false_iff_not, Bool.or_eq_true, Bool.or_eq_false_iff, Bool.and_eq_true, Bool.and_eq_false_iff, Bool.not_eq_true', Bool.not_eq_false', bne_iff_ne, bne_eq_false_iff_eq, beq_iff_eq, beq_eq_false_iff_ne, true_and, and_true, Int.not_lt, Int.not_le, ne_eq, not_false_eq_true, implies_true, forall_const, gt_iff_lt, ge_iff_le]
  refine Wp_loop (fun j => 0 ≤ j.1 ∧ j.1 ≤ j.2 ∧ j.2 ≤ (l.length : Int) ∧ (∀ x ∈ l.take j.1.toNat, kB x id t) ∧ ∀ x ∈ l.drop j.2.toNat, ¬ kB x id t) (fun j => (j.2 - j.1).toNat)
    ⟨Int.le_refl _, by show (0 : Int) ≤ _; omega, Int.le_refl _, by simp, by simp⟩ ?_
  rintro ⟨i, j⟩ ⟨k1, k2, k3, k4, k5⟩
  dsimp only at k1 k2 k3 k4 k5
  simp only [L_slices_BinarySearchFunc_api_Blob_api_Blob_api_Blob_w_tiers_find_1_2, Wp_some, Wp_gd, Wp_cond, Wp_bd, Wp_bnd, Wp_bindE, Sum.elim_inl, Sum.elim_inr, condO, condA, decide_eq_true_eq, decide_eq_false_iff_not, Bool.or_eq_true, Bool.or_eq_false_iff, Bool.and_eq_true, Bool.and_eq_false_iff, Bool.not_eq_true', Bool.not_eq_false', bne_iff_ne, bne_eq_false_iff_eq, beq_iff_eq, beq_eq_false_iff_ne, true_and, and_true, Int.not_lt, Int.not_le, ne_eq, not_false_eq_true, implies_true, forall_const, gt_iff_lt, ge_iff_le]
  rw [w64 (x := i + j) (by omega), fdivE _ 1 64 2 rfl (by decide)]
  have hu : IntKind.wrap .u64 (i + j) = i + j := by
    rw [wU64]
    omega
  rw [hu, w64 (x := (i + j) / 2) (by omega), w64 (x := (i + j) / 2 + 1) (by omega)]
  refine ⟨fun hij => ⟨by omega, (find1_W _ _).mono fun r ⟨h1, h2⟩ => ⟨fun q => ?_, fun q => ?_⟩⟩, fun hij => ?_⟩
  · have hk : kB (l.getD ((i + j) / 2).toNat default) id t := h1.1 q
    refine ⟨⟨by omega, by omega, k3, ?_, k5⟩, by omega⟩
    refine take_snoc (d := default) (by omega) ?_ hk
    intro x hx
    obtain ⟨n, hn, rfl⟩ := List.mem_take_iff_getElem.1 hx
    have hm : ((i + j) / 2).toNat < l.length := by omega
    rw [getD_get hm] at hk
    exact kB.trans (List.pairwise_iff_getElem.1 hs n ((i + j) / 2).toNat (by omega) hm (by omega)) hk
  · have hk : ¬ kB (l.getD ((i + j) / 2).toNat default) id t := fun z => by
      have := h1.2 z
      omega
    refine ⟨⟨k1, by omega, by omega, k4, ?_⟩, by omega⟩
    intro x hx
    rw [drop_getD (d := default) (by omega)] at hx
    have hp := hs.sublist (List.drop_sublist ((i + j) / 2).toNat l)
    rw [drop_getD (d := default) (by omega)] at hp
    rcases List.mem_cons.1 hx with hx | hx
    · subst hx
      exact hk
    · exact fun z => hk (kB.trans ((List.pairwise_cons.1 hp).1 x hx) z)
  · have e : i = j := by omega
    subst e
    have hcut : Cut l id t i := ⟨⟨k1, k3⟩, k4, k5⟩
    refine ⟨fun h => ⟨k1, h⟩, fun h => (find1_W _ _).mono fun r ⟨h1, h2⟩ => ⟨hcut, ?_⟩, fun h => ⟨hcut, ?_⟩⟩
    · unfold hitAt
      rw [h2]
    · unfold hitAt
      refine ⟨fun z => by omega, fun z => by omega⟩

theorem CloneI_W {l : List Int} (hl : l.length ≤ 70000000000000) : F_slices_Clone_byte_byte l = some l := by
  refine Wp.eq ?_
  unfold F_slices_Clone_byte_byte
  refine Wp_eqn (fun h => ?_) ?_
  · have : l = [] := List.length_eq_zero_iff.1 h
    subst this
    rfl
  · simp only [cond_false, Wp_some, Wp_gd, Wp_cond, Wp_bd, Wp_bnd, Wp_bindE, Sum.elim_inl, Sum.elim_inr, condO, condA, decide_eq_true_eq, decide_eq_false_iff_not, Bool.or_eq_true, Bool.or_eq_false_iff, Bool.and_eq_true, Bool.and_eq_false_iff, Bool.not_eq_true', Bool.not_eq_false', bne_iff_ne, bne_eq_false_iff_eq, beq_iff_eq, beq_eq_false_iff_ne, true_and, and_true, Int.not_lt, Int.not_le, ne_eq, not_false_eq_true, implies_true, forall_const, gt_iff_lt, ge_iff_le, List.nil_append, List.length_nil]
    omega

theorem Get_W {l : List S_Blob} {n id t : Int} (h : ShOk l n) (hn : n ≤ 1000000) : ∃ r, F_tiers_Get l id t = some r ∧ F_r33_Get l id t = some r ∧ (r.1.length ≤ 2199023255552 ∧ ∀ v ∈ r.1.take 124, byte v) ∧ (r.2 = false → r.1 = []) := by
  have hlen := h.len
  have ht : Wp (F_tiers_Get l id t) fun r => ∀ i, Cut l id t i → (hitAt l id t i → r = ((l.getD i.toNat default).Data, true)) ∧ (¬ hitAt l id t i → r = ([], false)) := by
    simp only [F_tiers_Get, Wp_some, Wp_gd, Wp_cond, Wp_bd, Wp_bnd, Wp_bindE, Sum.elim_inl, Sum.elim_inr, condO, condA, decide_eq_true_eq, decide_eq_false_iff_not, Bool.or_eq_true, Bool.or_eq_false_iff, Bool.and_eq_true, Bool.and_eq_false_iff, Bool.not_eq_true', Bool.not_eq_false', bne_iff_ne, bne_eq_false_iff_eq, beq_iff_eq, beq_eq_false_iff_ne, true_and, and_true, Int.not_lt, Int.not_le, ne_eq, not_false_eq_true, implies_true, forall_const, gt_iff_lt, ge_iff_le]
    refine (tfind_W h.lt (by omega)).mono fun r1 ⟨hc, hh⟩ => ⟨fun q i hi => ?_, fun q => ?_⟩
    · have e := Cut.uniq hc hi
      subst e
      intro z
      rw [hh.2 z] at q
      exact Bool.noConfusion q
    · have hq := hh.1 q
      have hb := getD_int (d := default) h.ok ⟨hc.1.1, hq.1⟩
      rw [CloneI_W (by have := hb.1; omega)]
      simp only [Wp_some, Wp_gd, Wp_cond, Wp_bd, Wp_bnd, Wp_bindE, Sum.elim_inl, Sum.elim_inr, condO, condA, decide_eq_true_eq, decide_eq_false_iff_not, Bool.or_eq_true, Bool.or_eq_false_iff, Bool.and_eq_true, Bool.and_eq_false_iff, Bool.not_eq_true', Bool.not_eq_false', bne_iff_ne, bne_eq_false_iff_eq, beq_iff_eq, beq_eq_false_iff_ne, true_and, and_true, Int.not_lt, Int.not_le, ne_eq, not_false_eq_true, implies_true, forall_const, gt_iff_lt, ge_iff_le]
      refine ⟨⟨hc.1.1, hq.1⟩, fun i hi => ?_⟩
      have e := Cut.uniq hc hi
      subst e
      exact ⟨fun _ => rfl, fun z => absurd hq z⟩
  have hr : Wp (F_r33_Get l id t) fun r => (∀ i, Cut l id t i → (hitAt l id t i → r = ((l.getD i.toNat default).Data, true)) ∧ (¬ hitAt l id t i → r = ([], false))) ∧ ∃ i, Cut l id t i := by
    simp only [F_r33_Get, Wp_some, Wp_gd, Wp_cond, Wp_bd, Wp_bnd, Wp_bindE, Sum.elim_inl, Sum.elim_inr, condO, condA, decide_eq_true_eq, decide_eq_false_iff_not, Bool.or_eq_true, Bool.or_eq_false_iff, Bool.and_eq_true, Bool.and_eq_false_iff, Bool.not_eq_true', Bool.not_eq_false', bne_iff_ne, bne_eq_false_iff_eq, beq_iff_eq, beq_eq_false_iff_ne, true_and, and_true, Int.not_lt, Int.not_le, ne_eq, not_false_eq_true, implies_true, forall_const, gt_iff_lt, ge_iff_le]
    refine (at_W h.lt (by omega)).mono fun r1 ⟨hc, hh⟩ => ⟨fun q => ?_, fun q => ⟨fun i hi => ?_, _, hc⟩⟩
    · have hq := hh.1 q
      have hb := getD_int (d := default) h.ok ⟨hc.1.1, hq.1⟩
      refine ⟨⟨hc.1.1, hq.1⟩, by have := hb.1; simp only [List.length_nil]; omega, fun i hi => ?_, _, hc⟩
      have e := Cut.uniq hc hi
      subst e
      exact ⟨fun _ => by rw [List.nil_append], fun z => absurd hq z⟩
    · have e := Cut.uniq hc hi
      subst e
      intro z
      rw [hh.2 z] at q
      exact Bool.noConfusion q
  obtain ⟨r, e1, p1⟩ := ht
  obtain ⟨r', e2, p2, i, hi⟩ := hr
  have hz := (p1 i hi)
  have hz' := (p2 i hi)
  by_cases hh : hitAt l id t i
  · have a := hz.1 hh
    have b := hz'.1 hh
    subst a
    subst b
    exact ⟨_, e1, e2, getD_int (d := default) h.ok ⟨hi.1.1, hh.1⟩, fun q => Bool.noConfusion q⟩
  · have a := hz.2 hh
    have b := hz'.2 hh
    subst a
    subst b
    exact ⟨_, e1, e2, ⟨by simp, by simp⟩, fun _ => rfl⟩

theorem awake_W : F_law33_awake = some true := by
  refine Wp.eq ?_
  simp only [F_law33_awake, Wp_some, Wp_gd, Wp_cond, Wp_bd, Wp_bnd, Wp_bindE, Sum.elim_inl, Sum.elim_inr, condO, condA, decide_eq_true_eq, decide_eq_false_iff_not, Bool.or_eq_true, Bool.or_eq_false_iff, Bool.and_eq_true, Bool.and_eq_false_iff, Bool.not_eq_true', Bool.not_eq_false', bne_iff_ne, bne_eq_false_iff_eq, beq_iff_eq, beq_eq_false_iff_ne, true_and, and_true, Int.not_lt, Int.not_le, ne_eq, not_false_eq_true, implies_true, forall_const, gt_iff_lt, ge_iff_le]
  have hs : ShOk [(⟨1, 2, [7]⟩ : S_Blob)] 1 := ⟨by simp, by
    intro x hx
    simp only [List.mem_singleton] at hx
    subst hx
    exact ⟨by decide, by unfold byte; decide⟩, by decide⟩
  have ht : Wp (F_tiers_Get [(⟨1, 2, [7]⟩ : S_Blob)] 1 2) fun r => r = ([7], true) := by
    simp only [F_tiers_Get, Wp_some, Wp_gd, Wp_cond, Wp_bd, Wp_bnd, Wp_bindE, Sum.elim_inl, Sum.elim_inr, condO, condA, decide_eq_true_eq, decide_eq_false_iff_not, Bool.or_eq_true, Bool.or_eq_false_iff, Bool.and_eq_true, Bool.and_eq_false_iff, Bool.not_eq_true', Bool.not_eq_false', bne_iff_ne, bne_eq_false_iff_eq, beq_iff_eq, beq_eq_false_iff_ne, true_and, and_true, Int.not_lt, Int.not_le, ne_eq, not_false_eq_true, implies_true, forall_const, gt_iff_lt, ge_iff_le]
    refine (tfind_W hs.lt (by decide)).mono fun r1 ⟨hc, hh⟩ => ?_
    have hc0 : Cut [(⟨1, 2, [7]⟩ : S_Blob)] 1 2 0 := ⟨by decide, by simp, by
      intro x hx
      have : x = (⟨1, 2, [7]⟩ : S_Blob) := by simpa using hx
      subst this
      unfold kB
      decide⟩
    have e := Cut.uniq hc hc0
    have hit : hitAt [(⟨1, 2, [7]⟩ : S_Blob)] 1 2 0 := by
      unfold hitAt
      decide
    rw [e] at hh ⊢
    refine ⟨fun q => ?_, fun _ => ⟨by decide, ?_⟩⟩
    · rw [hh.2 hit] at q
      exact Bool.noConfusion q
    · show Wp (F_slices_Clone_byte_byte [7]) _
      rw [CloneI_W (by decide), Wp_some]
  refine ht.mono fun r hr => ?_
  subst hr
  exact ⟨rfl, rfl⟩
end Go.Abs
