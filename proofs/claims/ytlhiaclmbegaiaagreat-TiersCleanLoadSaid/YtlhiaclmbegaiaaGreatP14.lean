/- DERIVED. Plain laws, part 14: the law of Clean and Load. -/
import Derived.Test.YtlhiaclmbegaiaaGreatP13
set_option linter.unusedVariables false
set_option linter.unusedSimpArgs false
namespace Go.Abs
open Go
set_option maxRecDepth 100000

theorem Load_W {l : List S_Blob} {m : S_Manifest} {n id : Int} (h : ShOk l n) (hn : n ≤ 1000000) (hm : m.Segments.length ≤ 1000000) :
    ∃ r, F_tiers_Load l m id = some r ∧ F_r33_Load l m id = some r ∧ r.1.length ≤ 2199023255552 := by
  obtain ⟨g, g1, g2, ⟨g3, g4⟩, g5⟩ := Get_W (id := id) (t := (findSeg m id).1.Tier) h hn
  obtain ⟨s, s1, s2⟩ := sSummary_W g3 g4
  obtain ⟨s', s3, s4⟩ := rSummary_W g3
  have e : s.2 = s'.2 := s2.trans s4.symm
  have key : ∀ (r : S_SegmentInfo × Bool) (s : S_Summary × Int), ∃ z : List Int × Int, (cond (!r.2) (some (([] : List Int), 9)) (cond (cond (!g.2) true (s.2 != 0)) (some (([] : List Int), 25)) (some (g.1, 0)))) = some z ∧ z.1.length ≤ 2199023255552 := by
    intro r s
    cases r.2
    · exact ⟨_, rfl, by simp⟩
    · cases g.2
      · exact ⟨_, rfl, by simp⟩
      · cases (s.2 != 0)
        · exact ⟨_, rfl, g3⟩
        · exact ⟨_, rfl, by simp⟩
  obtain ⟨z, z1, z2⟩ := key (findSeg m id) s
  refine ⟨z, ?_, ?_, z2⟩
  · unfold F_tiers_Load
    rw [mFind_W hm, bnd_eq]
    show (cond _ _ (bnd (F_tiers_Get l id (findSeg m id).1.Tier) _)) = _
    rw [g1, bnd_eq]
    show (cond _ _ (bnd (F_segment_Summary g.1) _)) = _
    rw [s1, bnd_eq]
    exact z1
  · unfold F_r33_Load
    rw [rFind_W hm, bnd_eq]
    show (cond _ _ (bnd (F_r33_Get l id (findSeg m id).1.Tier) _)) = _
    rw [g2, bnd_eq]
    show (cond _ _ (bnd (F_r27_Summary g.1) _)) = _
    rw [s3, bnd_eq]
    rw [e] at z1
    exact z1

theorem CleanLoad_law {p0 : List Int} {p1 : Int} (h : ∀ x ∈ p0, 0 ≤ x ∧ x < 256) (hl : p0.length ≤ 9223372036854775807) : F_law33_TiersCleanLoad p0 p1 = some true := by
  refine Wp.eq ?_
  simp only [F_law33_TiersCleanLoad, awake_W, Wp_some, Wp_gd, Wp_cond, Wp_bd, Wp_bnd, Wp_bindE, Sum.elim_inl, Sum.elim_inr, condO, condA, decide_eq_true_eq, decide_eq_false_iff_not, Bool.or_eq_true, Bool.or_eq_false_iff, Bool.and_eq_true, Bool.and_eq_false_iff, Bool.not_eq_true', Bool.not_eq_false', bne_iff_ne, bne_eq_false_iff_eq, beq_iff_eq, beq_eq_false_iff_ne, true_and, and_true, Int.not_lt, Int.not_le, ne_eq, not_false_eq_true, implies_true, forall_const, gt_iff_lt, ge_iff_le]
  refine ⟨fun q => Bool.noConfusion q, ?_⟩
  refine (scene_W h hl).mono fun r2 sc => ?_
  have hm : r2.2.1.Segments.length ≤ 1000000 := by have := sc.m.seg; omega
  have hlen : r2.1.length ≤ 1000000 := by have := sc.sh.len; omega
  have hf : ShOk (r2.1.filter (keep r2.2.1)) 6 := ⟨sc.sh.lt.sublist List.filter_sublist, fun x hx => sc.sh.ok x ((List.mem_filter.1 hx).1), by have := sc.sh.len; have := List.length_filter_le (keep r2.2.1) r2.1; omega⟩
  rw [tClean_W hm hlen, rClean_W hm hlen]
  simp only [Wp_some, Wp_gd, Wp_cond, Wp_bd, Wp_bnd, Wp_bindE, Sum.elim_inl, Sum.elim_inr, condO, condA, decide_eq_true_eq, decide_eq_false_iff_not, Bool.or_eq_true, Bool.or_eq_false_iff, Bool.and_eq_true, Bool.and_eq_false_iff, Bool.not_eq_true', Bool.not_eq_false', bne_iff_ne, bne_eq_false_iff_eq, beq_iff_eq, beq_eq_false_iff_ne, true_and, and_true, Int.not_lt, Int.not_le, ne_eq, not_false_eq_true, implies_true, forall_const, gt_iff_lt, ge_iff_le]
  rw [SameS_W hf (by decide)]
  simp only [Wp_some, Wp_gd, Wp_cond, Wp_bd, Wp_bnd, Wp_bindE, Sum.elim_inl, Sum.elim_inr, condO, condA, decide_eq_true_eq, decide_eq_false_iff_not, Bool.or_eq_true, Bool.or_eq_false_iff, Bool.and_eq_true, Bool.and_eq_false_iff, Bool.not_eq_true', Bool.not_eq_false', bne_iff_ne, bne_eq_false_iff_eq, beq_iff_eq, beq_eq_false_iff_ne, true_and, and_true, Int.not_lt, Int.not_le, ne_eq, not_false_eq_true, implies_true, forall_const, gt_iff_lt, ge_iff_le]
  refine ⟨fun q => Bool.noConfusion q, ?_⟩
  refine (Next_W sc.c ⟨by decide, by decide⟩).mono fun r6 ⟨_, h6⟩ => ?_
  refine (Next_W h6 ⟨by decide, by decide⟩).mono fun r7 ⟨_, h7⟩ => ?_
  refine Wp_loop (fun j => 0 ≤ j ∧ j ≤ 3) (fun j => (3 - j).toNat) ⟨Int.le_refl _, by decide⟩ ?_
  rintro i ⟨k1, k2⟩
  simp only [L_law33_TiersCleanLoad_2, Wp_some, Wp_gd, Wp_cond, Wp_bd, Wp_bnd, Wp_bindE, Sum.elim_inl, Sum.elim_inr, condO, condA, decide_eq_true_eq, decide_eq_false_iff_not, Bool.or_eq_true, Bool.or_eq_false_iff, Bool.and_eq_true, Bool.and_eq_false_iff, Bool.not_eq_true', Bool.not_eq_false', bne_iff_ne, bne_eq_false_iff_eq, beq_iff_eq, beq_eq_false_iff_ne, true_and, and_true, Int.not_lt, Int.not_le, ne_eq, not_false_eq_true, implies_true, forall_const, gt_iff_lt, ge_iff_le]
  have h3 : (([p1, r6.1, r7.1] : List Int).length : Int) = 3 := rfl
  rw [h3, w64 (x := i + 1) (by omega)]
  obtain ⟨z, z1, z2, z3⟩ := Load_W (id := ([p1, r6.1, r7.1] : List Int).getD i.toNat default) sc.sh (by decide) hm
  rw [z1, Wp_some, z2, Wp_some, SameB_W (by omega)]
  simp only [Wp_some, Wp_gd, Wp_cond, Wp_bd, Wp_bnd, Wp_bindE, Sum.elim_inl, Sum.elim_inr, condO, condA, decide_eq_true_eq, decide_eq_false_iff_not, Bool.or_eq_true, Bool.or_eq_false_iff, Bool.and_eq_true, Bool.and_eq_false_iff, Bool.not_eq_true', Bool.not_eq_false', bne_iff_ne, bne_eq_false_iff_eq, beq_iff_eq, beq_eq_false_iff_ne, true_and, and_true, Int.not_lt, Int.not_le, ne_eq, not_false_eq_true, implies_true, forall_const, gt_iff_lt, ge_iff_le]
  exact fun hi => ⟨⟨k1, hi⟩, ⟨fun q => q.elim (fun z => absurd trivial z) fun z => Bool.noConfusion z, by omega⟩, fun q => absurd trivial q⟩
end Go.Abs
