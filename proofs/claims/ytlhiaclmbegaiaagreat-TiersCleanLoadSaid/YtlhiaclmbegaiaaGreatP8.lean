/- DERIVED. Plain laws, part 8: the sections of a segment come to an end. -/
import Derived.Test.YtlhiaclmbegaiaaGreatP7
set_option linter.unusedVariables false
set_option linter.unusedSimpArgs false
namespace Go.Abs
open Go

theorem lines_W {l : List S_Event} {n : Int} (h : EvsOk l n) (hn : n ≤ 150) : Wp (F_r27_lines l) fun r => r.length ≤ 70500000 := by
  have hlen := h.len
  simp only [F_r27_lines, Wp_some, Wp_gd, Wp_cond, Wp_bd, Wp_bnd, Wp_bindE, Sum.elim_inl, Sum.elim_inr, condO, condA, decide_eq_true_eq, decide_eq_false_iff_not, Bool.or_eq_true, Bool.or_eq_false_iff, Bool.and_eq_true, Bool.and_eq_false_iff, Bool.not_eq_true', Bool.not_eq_false', bne_iff_ne, bne_eq_false_iff_eq, beq_iff_eq, beq_eq_false_iff_ne, true_and, and_true, Int.not_lt, Int.not_le, ne_eq, not_false_eq_true, implies_true, forall_const, gt_iff_lt, ge_iff_le]
  refine Wp_loop (fun j => 0 ≤ j.1 ∧ j.1 ≤ (l.length : Int) ∧ (j.2.1.length : Int) ≤ j.1 ∧ (j.2.2.1.length : Int) ≤ 3 * j.1 ∧ (j.2.2.2.1.length : Int) ≤ 3 * j.1 ∧ (j.2.2.2.2.1.length : Int) ≤ 3 * j.1 ∧ (j.2.2.2.2.2.length : Int) ≤ 180 * j.1) (fun j => ((l.length : Int) - j.1).toNat)
    ⟨Int.le_refl _, by show (0 : Int) ≤ _; omega, Int.le_refl _, by decide, by decide, by decide, by decide⟩ ?_
  rintro ⟨i, a, b, c, d, e⟩ ⟨k1, k2, k3, k4, k5, k6, k7⟩
  dsimp only at k1 k2 k3 k4 k5 k6 k7
  simp only [L_r27_lines_2, Wp_some, Wp_gd, Wp_cond, Wp_bd, Wp_bnd, Wp_bindE, Sum.elim_inl, Sum.elim_inr, condO, condA, decide_eq_true_eq, decide_eq_false_iff_not, Bool.or_eq_true, Bool.or_eq_false_iff, Bool.and_eq_true, Bool.and_eq_false_iff, Bool.not_eq_true', Bool.not_eq_false', bne_iff_ne, bne_eq_false_iff_eq, beq_iff_eq, beq_eq_false_iff_ne, true_and, and_true, Int.not_lt, Int.not_le, ne_eq, not_false_eq_true, implies_true, forall_const, gt_iff_lt, ge_iff_le, List.length_append, List.length_cons, List.length_nil]
  rw [w64 (x := i + 1) (by omega)]
  refine ⟨fun hi => ⟨⟨k1, hi⟩, by omega, ?_⟩, fun hi => ?_⟩
  · have he := getD_int (d := default) h.ok ⟨k1, hi⟩
    have hc := he.cnt
    have ht := he.txt
    refine Wp_loop (fun j => 0 ≤ j.1 ∧ j.1 ≤ (((l.getD i.toNat default).Lines).length : Int) ∧ (j.2.1.length : Int) ≤ 3 * i + j.1 ∧ (j.2.2.1.length : Int) ≤ 3 * i + j.1 ∧ (j.2.2.2.1.length : Int) ≤ 3 * i + j.1 ∧ (j.2.2.2.2.length : Int) ≤ 180 * i + 60 * j.1) (fun j => ((((l.getD i.toNat default).Lines).length : Int) - j.1).toNat)
      ⟨Int.le_refl _, by show (0 : Int) ≤ _; omega, by show (b.length : Int) ≤ 3 * i + 0; omega, by show (c.length : Int) ≤ 3 * i + 0; omega, by show (d.length : Int) ≤ 3 * i + 0; omega, by show (e.length : Int) ≤ 180 * i + 60 * 0; omega⟩ ?_
    rintro ⟨k, b, c, d, e⟩ ⟨q1, q2, q3, q4, q5, q6⟩
    dsimp only at q1 q2 q3 q4 q5 q6
    simp only [L_r27_lines_4, Wp_some, Wp_gd, Wp_cond, Wp_bd, Wp_bnd, Wp_bindE, Sum.elim_inl, Sum.elim_inr, condO, condA, decide_eq_true_eq, decide_eq_false_iff_not, Bool.or_eq_true, Bool.or_eq_false_iff, Bool.and_eq_true, Bool.and_eq_false_iff, Bool.not_eq_true', Bool.not_eq_false', bne_iff_ne, bne_eq_false_iff_eq, beq_iff_eq, beq_eq_false_iff_ne, true_and, and_true, Int.not_lt, Int.not_le, ne_eq, not_false_eq_true, implies_true, forall_const, gt_iff_lt, ge_iff_le, List.length_append, List.length_cons, List.length_nil, strL_length]
    rw [w64 (x := k + 1) (by omega)]
    refine ⟨fun hk => ?_, fun hk => by omega⟩
    have hx := getD_int (d := default) ht ⟨q1, hk⟩
    exact ⟨⟨q1, hk⟩, by omega, by omega, by omega, by omega, by omega, by omega⟩
  · refine (column_W (by omega)).mono fun r12 h12 => ?_
    refine (PutBlock_W (by simp; omega)).mono fun r13 h13 => ?_
    simp only [List.length_nil] at h13
    refine (column_W (by omega)).mono fun r14 h14 => ?_
    refine (PutBlock_W (by omega)).mono fun r15 h15 => ?_
    refine (column_W (by omega)).mono fun r16 h16 => ?_
    refine (PutBlock_W (by omega)).mono fun r17 h17 => ?_
    refine (column_W (by omega)).mono fun r18 h18 => ?_
    refine (PutBlock_W (by omega)).mono fun r19 h19 => ?_
    omega

theorem Get11_W {l : List S_Field} {x : ByteArray} (hl : l.length ≤ 1099511627776) : Wp (F_r11_Get l x) fun _ => True := by
  simp only [F_r11_Get, Wp_some, Wp_gd, Wp_cond, Wp_bd, Wp_bnd, Wp_bindE, Sum.elim_inl, Sum.elim_inr, condO, condA, decide_eq_true_eq, decide_eq_false_iff_not, Bool.or_eq_true, Bool.or_eq_false_iff, Bool.and_eq_true, Bool.and_eq_false_iff, Bool.not_eq_true', Bool.not_eq_false', bne_iff_ne, bne_eq_false_iff_eq, beq_iff_eq, beq_eq_false_iff_ne, true_and, and_true, Int.not_lt, Int.not_le, ne_eq, not_false_eq_true, implies_true, forall_const, gt_iff_lt, ge_iff_le]
  refine Wp_loop (fun j => 0 ≤ j ∧ j ≤ (l.length : Int)) (fun j => ((l.length : Int) - j).toNat) ⟨Int.le_refl _, by omega⟩ ?_
  rintro i ⟨k1, k2⟩
  simp only [L_r11_Get_2, Wp_some, Wp_gd, Wp_cond, Wp_bd, Wp_bnd, Wp_bindE, Sum.elim_inl, Sum.elim_inr, condO, condA, decide_eq_true_eq, decide_eq_false_iff_not, Bool.or_eq_true, Bool.or_eq_false_iff, Bool.and_eq_true, Bool.and_eq_false_iff, Bool.not_eq_true', Bool.not_eq_false', bne_iff_ne, bne_eq_false_iff_eq, beq_iff_eq, beq_eq_false_iff_ne, true_and, and_true, Int.not_lt, Int.not_le, ne_eq, not_false_eq_true, implies_true, forall_const, gt_iff_lt, ge_iff_le]
  rw [w64 (x := i + 1) (by omega)]
  exact fun hi => ⟨⟨k1, hi⟩, fun _ => by omega⟩

theorem values_W {l : List S_Event} {x : ByteArray} {n : Int} (h : EvsOk l n) (hn : n ≤ 150) : Wp (F_r27_values l x) fun r => r.1.length ≤ 150 ∧ r.2.length ≤ 150 := by
  have hlen := h.len
  simp only [F_r27_values, Wp_some, Wp_gd, Wp_cond, Wp_bd, Wp_bnd, Wp_bindE, Sum.elim_inl, Sum.elim_inr, condO, condA, decide_eq_true_eq, decide_eq_false_iff_not, Bool.or_eq_true, Bool.or_eq_false_iff, Bool.and_eq_true, Bool.and_eq_false_iff, Bool.not_eq_true', Bool.not_eq_false', bne_iff_ne, bne_eq_false_iff_eq, beq_iff_eq, beq_eq_false_iff_ne, true_and, and_true, Int.not_lt, Int.not_le, ne_eq, not_false_eq_true, implies_true, forall_const, gt_iff_lt, ge_iff_le]
  refine Wp_loop (fun j => 0 ≤ j.1 ∧ j.1 ≤ (l.length : Int) ∧ (j.2.1.length : Int) ≤ j.1 ∧ (j.2.2.length : Int) ≤ j.1) (fun j => ((l.length : Int) - j.1).toNat) ⟨Int.le_refl _, by show (0 : Int) ≤ _; omega, Int.le_refl _, Int.le_refl _⟩ ?_
  rintro ⟨i, a, b⟩ ⟨k1, k2, k3, k4⟩
  dsimp only at k1 k2 k3 k4
  simp only [L_r27_values_2, Wp_some, Wp_gd, Wp_cond, Wp_bd, Wp_bnd, Wp_bindE, Sum.elim_inl, Sum.elim_inr, condO, condA, decide_eq_true_eq, decide_eq_false_iff_not, Bool.or_eq_true, Bool.or_eq_false_iff, Bool.and_eq_true, Bool.and_eq_false_iff, Bool.not_eq_true', Bool.not_eq_false', bne_iff_ne, bne_eq_false_iff_eq, beq_iff_eq, beq_eq_false_iff_ne, true_and, and_true, Int.not_lt, Int.not_le, ne_eq, not_false_eq_true, implies_true, forall_const, gt_iff_lt, ge_iff_le, List.length_append, List.length_cons, List.length_nil]
  rw [w64 (x := i + 1) (by omega)]
  refine ⟨fun hi => ⟨⟨k1, hi⟩, ?_⟩, fun hi => by omega⟩
  exact (Get11_W (by have := (getD_int (d := default) h.ok ⟨k1, hi⟩).fields.len; omega)).mono fun r _ => ⟨fun _ => by omega, fun _ => by omega⟩

theorem Check25_W {l : List Int} (hl : l.length ≤ 1099511627776) : Wp (F_r25_Check l) fun r => r = 0 → l.length ≤ 4096 := by
  simp only [F_r25_Check, Wp_some, Wp_gd, Wp_cond, Wp_bd, Wp_bnd, Wp_bindE, Sum.elim_inl, Sum.elim_inr, condO, condA, decide_eq_true_eq, decide_eq_false_iff_not, Bool.or_eq_true, Bool.or_eq_false_iff, Bool.and_eq_true, Bool.and_eq_false_iff, Bool.not_eq_true', Bool.not_eq_false', bne_iff_ne, bne_eq_false_iff_eq, beq_iff_eq, beq_eq_false_iff_ne, true_and, and_true, Int.not_lt, Int.not_le, ne_eq, not_false_eq_true, implies_true, forall_const, gt_iff_lt, ge_iff_le]
  refine ⟨fun _ h => by omega, fun h0 => ?_⟩
  refine Wp_loop (fun j => 0 ≤ j ∧ j ≤ (l.length : Int)) (fun j => ((l.length : Int) - j).toNat) ⟨Int.le_refl _, by omega⟩ ?_
  rintro i ⟨k1, k2⟩
  simp only [L_r25_Check_2, Wp_some, Wp_gd, Wp_cond, Wp_bd, Wp_bnd, Wp_bindE, Sum.elim_inl, Sum.elim_inr, condO, condA, decide_eq_true_eq, decide_eq_false_iff_not, Bool.or_eq_true, Bool.or_eq_false_iff, Bool.and_eq_true, Bool.and_eq_false_iff, Bool.not_eq_true', Bool.not_eq_false', bne_iff_ne, bne_eq_false_iff_eq, beq_iff_eq, beq_eq_false_iff_ne, true_and, and_true, Int.not_lt, Int.not_le, ne_eq, not_false_eq_true, implies_true, forall_const, gt_iff_lt, ge_iff_le]
  rw [w64 (x := i + 1) (by omega)]
  refine ⟨fun hi => ⟨⟨k1, hi⟩, fun _ => ⟨k1, hi⟩, fun _ h => by omega, fun hs => by omega⟩, fun hi => ?_⟩
  refine Wp_loop (fun j => 1 ≤ j) (fun j => ((l.length : Int) - j).toNat) (by omega) ?_
  rintro i k1
  simp only [L_r25_Check_4, Wp_some, Wp_gd, Wp_cond, Wp_bd, Wp_bnd, Wp_bindE, Sum.elim_inl, Sum.elim_inr, condO, condA, decide_eq_true_eq, decide_eq_false_iff_not, Bool.or_eq_true, Bool.or_eq_false_iff, Bool.and_eq_true, Bool.and_eq_false_iff, Bool.not_eq_true', Bool.not_eq_false', bne_iff_ne, bne_eq_false_iff_eq, beq_iff_eq, beq_eq_false_iff_ne, true_and, and_true, Int.not_lt, Int.not_le, ne_eq, not_false_eq_true, implies_true, forall_const, gt_iff_lt, ge_iff_le]
  refine ⟨fun hi => ?_, fun hi => by omega⟩
  rw [w64 (x := i - 1) (by omega), w64 (x := i + 1) (by omega)]
  exact ⟨by omega, by omega, fun _ h => by omega, fun _ => by omega⟩

theorem sub_len {α : Type} {l : List α} {a b : Int} (h : 0 ≤ a ∧ a ≤ b ∧ b ≤ (l.length : Int)) : ((sub l a b).length : Int) = b - a := by
  rw [sub_length h]
  omega

theorem Encode25_W {l : List Int} (hl : l.length ≤ 1099511627776) : Wp (F_r25_Encode l) fun r => r.1.length ≤ 150000 := by
  simp only [F_r25_Encode, Wp_some, Wp_gd, Wp_cond, Wp_bd, Wp_bnd, Wp_bindE, Sum.elim_inl, Sum.elim_inr, condO, condA, decide_eq_true_eq, decide_eq_false_iff_not, Bool.or_eq_true, Bool.or_eq_false_iff, Bool.and_eq_true, Bool.and_eq_false_iff, Bool.not_eq_true', Bool.not_eq_false', bne_iff_ne, bne_eq_false_iff_eq, beq_iff_eq, beq_eq_false_iff_ne, true_and, and_true, Int.not_lt, Int.not_le, ne_eq, not_false_eq_true, implies_true, forall_const, gt_iff_lt, ge_iff_le, List.length_append]
  refine (Check25_W hl).mono fun r1 h1 => ⟨fun _ => by simp, fun h => ?_⟩
  have hn := h1 h
  refine (PutVarint_W (wU64_range _) (by simp)).mono fun r2 h2 => ?_
  simp only [List.length_nil] at h2
  refine Wp_loop (fun j => 0 ≤ j.1 ∧ j.1 ≤ (l.length : Int) + 32 ∧ (j.2.1.length : Int) ≤ 10 + 20 * j.1 ∧ (j.2.2.length : Int) ≤ 10 * j.1) (fun j => ((l.length : Int) + 32 - j.1).toNat) ⟨Int.le_refl _, by show (0 : Int) ≤ _; omega, by show (r2.length : Int) ≤ 10 + 20 * 0; omega, Int.le_refl _⟩ ?_
  rintro ⟨i, a, b⟩ ⟨k1, k2, k3, k4⟩
  dsimp only at k1 k2 k3 k4
  simp only [L_r25_Encode_2, Wp_some, Wp_gd, Wp_cond, Wp_bd, Wp_bnd, Wp_bindE, Sum.elim_inl, Sum.elim_inr, condO, condA, decide_eq_true_eq, decide_eq_false_iff_not, Bool.or_eq_true, Bool.or_eq_false_iff, Bool.and_eq_true, Bool.and_eq_false_iff, Bool.not_eq_true', Bool.not_eq_false', bne_iff_ne, bne_eq_false_iff_eq, beq_iff_eq, beq_eq_false_iff_ne, true_and, and_true, Int.not_lt, Int.not_le, ne_eq, not_false_eq_true, implies_true, forall_const, gt_iff_lt, ge_iff_le, List.length_append]
  rw [w64 (x := i + 32) (by omega)]
  refine ⟨fun hi => ?_, fun hi => by omega⟩
  have hb : 0 ≤ i ∧ i ≤ (if i + 32 < (l.length : Int) then i + 32 else (l.length : Int)) ∧ (if i + 32 < (l.length : Int) then i + 32 else (l.length : Int)) ≤ (l.length : Int) := by
    split <;> omega
  have hs := sub_len hb
  have hs2 : 1 ≤ ((sub l i (if i + 32 < (l.length : Int) then i + 32 else (l.length : Int))).length : Int) ∧ ((sub l i (if i + 32 < (l.length : Int) then i + 32 else (l.length : Int))).length : Int) ≤ 32 := by
    rw [hs]
    split <;> omega
  refine ⟨hb, ?_⟩
  generalize sub l i (if i + 32 < (l.length : Int) then i + 32 else (l.length : Int)) = x at *
  refine Wp_loop (fun j => 0 ≤ j.1 ∧ j.1 ≤ (x.length : Int) ∧ (j.2.length : Int) ≤ 10 * j.1) (fun j => ((x.length : Int) - j.1).toNat) ⟨Int.le_refl _, by show (0 : Int) ≤ _; omega, Int.le_refl _⟩ ?_
  rintro ⟨k, c⟩ ⟨q1, q2, q3⟩
  dsimp only at q1 q2 q3
  simp only [L_r25_Encode_4, Wp_some, Wp_gd, Wp_cond, Wp_bd, Wp_bnd, Wp_bindE, Sum.elim_inl, Sum.elim_inr, condO, condA, decide_eq_true_eq, decide_eq_false_iff_not, Bool.or_eq_true, Bool.or_eq_false_iff, Bool.and_eq_true, Bool.and_eq_false_iff, Bool.not_eq_true', Bool.not_eq_false', bne_iff_ne, bne_eq_false_iff_eq, beq_iff_eq, beq_eq_false_iff_ne, true_and, and_true, Int.not_lt, Int.not_le, ne_eq, not_false_eq_true, implies_true, forall_const, gt_iff_lt, ge_iff_le]
  rw [w64 (x := k + 1) (by omega)]
  refine ⟨fun hk => ⟨⟨q1, hk⟩, fun h0 => ?_, fun h0 => ?_⟩, fun hk => ?_⟩
  · rw [w64 (x := k - 1) (by omega)]
    exact ⟨by omega, (PutVarint_W (wU64_range _) (by omega)).mono fun r hr => by omega⟩
  · exact (PutVarint_W (wU64_range _) (by omega)).mono fun r hr => by omega
  · rw [w64 (x := (x.length : Int) - 1) (by omega)]
    refine ⟨by omega, (PutVarint_W (wU64_range _) (by omega)).mono fun r10 h10 => ?_⟩
    exact (PutVarint_W (wU64_range _) (by omega)).mono fun r11 h11 => by omega

theorem postings_W {l : List Int} (hl : l.length ≤ 1099511627776) : Wp (F_r27_postings l) fun r => r.length ≤ 150000 := by
  simp only [F_r27_postings, Wp_some, Wp_gd, Wp_cond, Wp_bd, Wp_bnd, Wp_bindE, Sum.elim_inl, Sum.elim_inr, condO, condA, decide_eq_true_eq, decide_eq_false_iff_not, Bool.or_eq_true, Bool.or_eq_false_iff, Bool.and_eq_true, Bool.and_eq_false_iff, Bool.not_eq_true', Bool.not_eq_false', bne_iff_ne, bne_eq_false_iff_eq, beq_iff_eq, beq_eq_false_iff_ne, true_and, and_true, Int.not_lt, Int.not_le, ne_eq, not_false_eq_true, implies_true, forall_const, gt_iff_lt, ge_iff_le]
  exact Encode25_W hl

theorem fields_W {l : List S_Event} {n : Int} (h : EvsOk l n) (hn : n ≤ 150) : Wp (F_r27_fields l) fun r => r.length ≤ 137438953472 := by
  simp only [F_r27_fields, Wp_some, Wp_gd, Wp_cond, Wp_bd, Wp_bnd, Wp_bindE, Sum.elim_inl, Sum.elim_inr, condO, condA, decide_eq_true_eq, decide_eq_false_iff_not, Bool.or_eq_true, Bool.or_eq_false_iff, Bool.and_eq_true, Bool.and_eq_false_iff, Bool.not_eq_true', Bool.not_eq_false', bne_iff_ne, bne_eq_false_iff_eq, beq_iff_eq, beq_eq_false_iff_ne, true_and, and_true, Int.not_lt, Int.not_le, ne_eq, not_false_eq_true, implies_true, forall_const, gt_iff_lt, ge_iff_le]
  refine (names_W h (by omega)).mono fun r1 ⟨_, h1⟩ => ?_
  refine (dictionary_W (by omega)).mono fun r2 h2 => ?_
  refine (PutBlock_W (by simp; omega)).mono fun r3 h3 => ?_
  simp only [List.length_nil] at h3
  refine Wp_loop (fun j => 0 ≤ j.1 ∧ j.1 ≤ (r1.length : Int) ∧ (j.2.length : Int) ≤ 70000010 + 70700010 * j.1) (fun j => ((r1.length : Int) - j.1).toNat) ⟨Int.le_refl _, by show (0 : Int) ≤ _; omega, by show (r3.length : Int) ≤ 70000010 + 70700010 * 0; omega⟩ ?_
  rintro ⟨i, b⟩ ⟨k1, k2, k3⟩
  dsimp only at k1 k2 k3
  simp only [L_r27_fields_2, Wp_some, Wp_gd, Wp_cond, Wp_bd, Wp_bnd, Wp_bindE, Sum.elim_inl, Sum.elim_inr, condO, condA, decide_eq_true_eq, decide_eq_false_iff_not, Bool.or_eq_true, Bool.or_eq_false_iff, Bool.and_eq_true, Bool.and_eq_false_iff, Bool.not_eq_true', Bool.not_eq_false', bne_iff_ne, bne_eq_false_iff_eq, beq_iff_eq, beq_eq_false_iff_ne, true_and, and_true, Int.not_lt, Int.not_le, ne_eq, not_false_eq_true, implies_true, forall_const, gt_iff_lt, ge_iff_le, List.length_append]
  rw [w64 (x := i + 1) (by omega)]
  refine ⟨fun hi => ⟨⟨k1, hi⟩, ?_⟩, fun hi => by omega⟩
  refine (values_W h hn).mono fun r5 h5 => ?_
  refine (postings_W (by omega)).mono fun r6 h6 => ?_
  refine (PutBlock_W (by omega)).mono fun r7 h7 => ?_
  exact (indexed_W (by omega)).mono fun r8 h8 => by omega

theorem index_W {l : List S_Event} {n : Int} (h : EvsOk l n) (hn : n ≤ 150) : Wp (F_r27_index l) fun r => r.length ≤ 137438953472 := by
  have hlen := h.len
  simp only [F_r27_index, Wp_some, Wp_gd, Wp_cond, Wp_bd, Wp_bnd, Wp_bindE, Sum.elim_inl, Sum.elim_inr, condO, condA, decide_eq_true_eq, decide_eq_false_iff_not, Bool.or_eq_true, Bool.or_eq_false_iff, Bool.and_eq_true, Bool.and_eq_false_iff, Bool.not_eq_true', Bool.not_eq_false', bne_iff_ne, bne_eq_false_iff_eq, beq_iff_eq, beq_eq_false_iff_ne, true_and, and_true, Int.not_lt, Int.not_le, ne_eq, not_false_eq_true, implies_true, forall_const, gt_iff_lt, ge_iff_le]
  refine (words_W h (by omega)).mono fun r1 ⟨hs, h1, hw⟩ => ⟨by omega, by omega, ?_⟩
  refine Wp_loop (fun j => 0 ≤ j.1 ∧ j.1 ≤ (l.length : Int) ∧ j.2.length = r1.length ∧ ∀ x ∈ j.2, (x.length : Int) ≤ 100000000 * j.1) (fun j => ((l.length : Int) - j.1).toNat) ⟨Int.le_refl _, by show (0 : Int) ≤ _; omega, by simp, by
    intro x hx
    have := List.eq_of_mem_replicate hx
    subst this
    exact Int.le_refl _⟩ ?_
  rintro ⟨i, ids⟩ ⟨k1, k2, k3, k4⟩
  dsimp only at k1 k2 k3 k4
  simp only [L_r27_index_2, Wp_some, Wp_gd, Wp_cond, Wp_bd, Wp_bnd, Wp_bindE, Sum.elim_inl, Sum.elim_inr, condO, condA, decide_eq_true_eq, decide_eq_false_iff_not, Bool.or_eq_true, Bool.or_eq_false_iff, Bool.and_eq_true, Bool.and_eq_false_iff, Bool.not_eq_true', Bool.not_eq_false', bne_iff_ne, bne_eq_false_iff_eq, beq_iff_eq, beq_eq_false_iff_ne, true_and, and_true, Int.not_lt, Int.not_le, ne_eq, not_false_eq_true, implies_true, forall_const, gt_iff_lt, ge_iff_le]
  rw [w64 (x := i + 1) (by omega)]
  refine ⟨fun hi => ⟨⟨k1, hi⟩, ?_⟩, fun hi => ?_⟩
  · have he := getD_int (d := default) h.ok ⟨k1, hi⟩
    have hm := getD_mem (d := default) (l := l) (i := i.toNat) (by omega)
    have hc := he.cnt
    refine (ETxt_W he.txt (by omega)).monoE fun t ht h5 => ?_
    refine (Words_W (by omega)).monoE fun w hw5 ⟨_, h6⟩ => ?_
    have hin := hw _ hm w ⟨t, ht, hw5⟩
    refine Wp_loop (fun j => 0 ≤ j.1 ∧ j.1 ≤ (w.length : Int) ∧ j.2.length = r1.length ∧ ∀ x ∈ j.2, (x.length : Int) ≤ 100000000 * i + j.1) (fun j => ((w.length : Int) - j.1).toNat) ⟨Int.le_refl _, by show (0 : Int) ≤ _; omega, k3, fun x hx => by have := k4 x hx; show (x.length : Int) ≤ 100000000 * i + 0; omega⟩ ?_
    rintro ⟨k, ids⟩ ⟨q1, q2, q3, q4⟩
    dsimp only at q1 q2 q3 q4
    simp only [L_r27_index_4, Wp_some, Wp_gd, Wp_cond, Wp_bd, Wp_bnd, Wp_bindE, Sum.elim_inl, Sum.elim_inr, condO, condA, decide_eq_true_eq, decide_eq_false_iff_not, Bool.or_eq_true, Bool.or_eq_false_iff, Bool.and_eq_true, Bool.and_eq_false_iff, Bool.not_eq_true', Bool.not_eq_false', bne_iff_ne, bne_eq_false_iff_eq, beq_iff_eq, beq_eq_false_iff_ne, true_and, and_true, Int.not_lt, Int.not_le, ne_eq, not_false_eq_true, implies_true, forall_const, gt_iff_lt, ge_iff_le, List.length_append, List.length_cons, List.length_nil, List.length_set]
    rw [w64 (x := k + 1) (by omega)]
    refine ⟨fun hk => ⟨⟨q1, hk⟩, ?_⟩, fun hk => ⟨⟨by omega, by omega, q3, fun x hx => ?_⟩, by omega⟩⟩
    · have hx := hin _ (getD_mem (d := default) (l := w) (i := k.toNat) (by omega))
      refine (Index_W hs (by omega)).mono fun r8 ⟨g1, g2, g3⟩ => ?_
      have g3 := g3 hx
      have hq := getD_all (d := []) (R := fun x : List Int => (x.length : Int) ≤ 100000000 * i + k) q4 (i := r8.1.toNat) (by omega)
      refine ⟨by omega, by omega, ⟨by omega, by omega, q3, fun y hy => ?_⟩, by omega⟩
      rcases List.mem_or_eq_of_mem_set hy with hy | hy
      · have := q4 y hy
        omega
      · subst hy
        simp only [List.length_append, List.length_cons, List.length_nil]
        omega
    · have := q4 x hx
      show (x.length : Int) ≤ 100000000 * (i + 1)
      omega
  · refine (dictionary_W (by omega)).mono fun r12 h12 => ?_
    refine (PutBlock_W (by simp; omega)).mono fun r13 h13 => ?_
    simp only [List.length_nil] at h13
    refine Wp_loop (fun j => 0 ≤ j.2.1 ∧ j.2.1 ≤ (r1.length : Int) ∧ j.1 = ids ∧ (j.2.2.length : Int) ≤ 70000010 + 150010 * j.2.1) (fun j => ((r1.length : Int) - j.2.1).toNat) ⟨Int.le_refl _, by show (0 : Int) ≤ _; omega, rfl, by show (r13.length : Int) ≤ 70000010 + 150010 * 0; omega⟩ ?_
    rintro ⟨x, k, b⟩ ⟨q1, q2, q3, q4⟩
    dsimp only at q1 q2 q3 q4
    subst q3
    simp only [L_r27_index_6, Wp_some, Wp_gd, Wp_cond, Wp_bd, Wp_bnd, Wp_bindE, Sum.elim_inl, Sum.elim_inr, condO, condA, decide_eq_true_eq, decide_eq_false_iff_not, Bool.or_eq_true, Bool.or_eq_false_iff, Bool.and_eq_true, Bool.and_eq_false_iff, Bool.not_eq_true', Bool.not_eq_false', bne_iff_ne, bne_eq_false_iff_eq, beq_iff_eq, beq_eq_false_iff_ne, true_and, and_true, Int.not_lt, Int.not_le, ne_eq, not_false_eq_true, implies_true, forall_const, gt_iff_lt, ge_iff_le]
    rw [w64 (x := k + 1) (by omega)]
    refine ⟨fun hk => ⟨by omega, ?_⟩, fun hk => by omega⟩
    have hq := getD_int (d := default) (R := fun x : List Int => (x.length : Int) ≤ 100000000 * i) k4 (i := k) (by omega)
    refine (postings_W (by omega)).mono fun r15 h15 => ?_
    exact (PutBlock_W (by omega)).mono fun r16 h16 => by omega
end Go.Abs
