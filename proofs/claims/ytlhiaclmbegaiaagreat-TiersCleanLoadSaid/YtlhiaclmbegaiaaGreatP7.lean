/- DERIVED. Plain laws, part 7: the encoders come to an end: columns, dictionaries, indexed texts. -/
import Derived.Test.YtlhiaclmbegaiaaGreatP6
set_option linter.unusedVariables false
set_option linter.unusedSimpArgs false
namespace Go.Abs
open Go

theorem EncodeAs_W {k : Int} {l : List Int} (hl : l.length ≤ 1099511627776) : Wp (F_r24_EncodeAs k l) fun r => r.1.length ≤ 11 + 12 + 20 * 16384 ∧ (0 ≤ k ∧ k ≤ 3 ∧ l.length ≤ 16384 → r.2 = 0) := by
  simp only [F_r24_EncodeAs, Wp_some, Wp_gd, Wp_cond, Wp_bd, Wp_bnd, Wp_bindE, Sum.elim_inl, Sum.elim_inr, condO, condA, decide_eq_true_eq, decide_eq_false_iff_not, Bool.or_eq_true, Bool.or_eq_false_iff, Bool.and_eq_true, Bool.and_eq_false_iff, Bool.not_eq_true', Bool.not_eq_false', bne_iff_ne, bne_eq_false_iff_eq, beq_iff_eq, beq_eq_false_iff_ne, true_and, and_true, Int.not_lt, Int.not_le, ne_eq, not_false_eq_true, implies_true, forall_const, gt_iff_lt, ge_iff_le]
  refine ⟨fun _ => ⟨by decide, by omega⟩, fun hk => ⟨fun _ => ⟨by decide, by omega⟩, fun hn => ?_⟩⟩
  have hn' : l.length ≤ 16384 := by omega
  refine (PutVarint_W (wU64_range _) (by simp)).mono fun r1 h1 => ?_
  simp only [List.length_cons, List.length_nil] at h1
  refine ⟨fun _ => ?_, fun h3 => ?_⟩
  · refine (pack_W (by omega) hn').mono fun r2 h2 => by omega
  refine Wp_loop (fun j => 0 ≤ j.1 ∧ j.1 ≤ (l.length : Int) ∧ (j.2.length : Int) ≤ 11 + 20 * j.1) (fun j => ((l.length : Int) - j.1).toNat) ⟨Int.le_refl _, by show (0 : Int) ≤ _; omega, by show (r1.length : Int) ≤ 11 + 20 * 0; omega⟩ ?_
  rintro ⟨i, b⟩ ⟨k1, k2, k3⟩
  dsimp only at k1 k2 k3
  simp only [L_r24_EncodeAs_2, Wp_some, Wp_gd, Wp_cond, Wp_bd, Wp_bnd, Wp_bindE, Sum.elim_inl, Sum.elim_inr, condO, condA, decide_eq_true_eq, decide_eq_false_iff_not, Bool.or_eq_true, Bool.or_eq_false_iff, Bool.and_eq_true, Bool.and_eq_false_iff, Bool.not_eq_true', Bool.not_eq_false', bne_iff_ne, bne_eq_false_iff_eq, beq_iff_eq, beq_eq_false_iff_ne, true_and, and_true, Int.not_lt, Int.not_le, ne_eq, not_false_eq_true, implies_true, forall_const, gt_iff_lt, ge_iff_le]
  rw [w64 (x := i + 1) (by omega)]
  refine ⟨fun hi => ⟨fun _ => ?_, fun _ => ⟨fun h => ?_, fun h => ?_⟩⟩, fun hi => by omega⟩
  · refine Wp_loop (fun j => i ≤ j.1 ∧ j.1 < (l.length : Int) ∧ 0 ≤ j.2 ∧ j.2 ≤ j.1 + 1) (fun j => ((l.length : Int) - j.1).toNat) ⟨Int.le_refl _, hi, by show (0 : Int) ≤ 1; decide, by show (1 : Int) ≤ i + 1; omega⟩ ?_
    rintro ⟨q, n⟩ ⟨q1, q2, q3, q4⟩
    dsimp only at q1 q2 q3 q4
    simp only [L_r24_EncodeAs_5, Wp_some, Wp_gd, Wp_cond, Wp_bd, Wp_bnd, Wp_bindE, Sum.elim_inl, Sum.elim_inr, condO, condA, decide_eq_true_eq, decide_eq_false_iff_not, Bool.or_eq_true, Bool.or_eq_false_iff, Bool.and_eq_true, Bool.and_eq_false_iff, Bool.not_eq_true', Bool.not_eq_false', bne_iff_ne, bne_eq_false_iff_eq, beq_iff_eq, beq_eq_false_iff_ne, true_and, and_true, Int.not_lt, Int.not_le, ne_eq, not_false_eq_true, implies_true, forall_const, gt_iff_lt, ge_iff_le]
    rw [w64 (x := q + 1) (by omega), w64 (x := n + 1) (by omega)]
    refine ⟨fun _ => by omega, fun _ => by omega, fun _ => by omega, fun _ => ⟨by omega, ?_⟩⟩
    refine (PutInt_W (by omega)).mono fun r7 h7 => ?_
    refine (PutVarint_W (wU64_range _) (by omega)).mono fun r8 h8 => by omega
  · rw [w64 (x := i - 1) (by omega)]
    refine ⟨by omega, by omega, ?_⟩
    exact (PutInt_W (by omega)).mono fun r h => by omega
  · refine ⟨by omega, ?_⟩
    exact (PutInt_W (by omega)).mono fun r h => by omega

theorem Encode24_W {l : List Int} (hl : l.length ≤ 1099511627776) : Wp (F_r24_Encode l) fun r => r.1.length ≤ 400000 := by
  simp only [F_r24_Encode, Wp_some, Wp_gd, Wp_cond, Wp_bd, Wp_bnd, Wp_bindE, Sum.elim_inl, Sum.elim_inr, condO, condA, decide_eq_true_eq, decide_eq_false_iff_not, Bool.or_eq_true, Bool.or_eq_false_iff, Bool.and_eq_true, Bool.and_eq_false_iff, Bool.not_eq_true', Bool.not_eq_false', bne_iff_ne, bne_eq_false_iff_eq, beq_iff_eq, beq_eq_false_iff_ne, true_and, and_true, Int.not_lt, Int.not_le, ne_eq, not_false_eq_true, implies_true, forall_const, gt_iff_lt, ge_iff_le]
  refine (EncodeAs_W hl).mono fun r1 h1 => ⟨fun _ => by simp, fun _ => ?_⟩
  refine Wp_loop (fun j => 1 ≤ j.1 ∧ j.1 ≤ 4 ∧ j.2.length ≤ 400000) (fun j => (4 - j.1).toNat) ⟨Int.le_refl _, by show (1 : Int) ≤ 4; decide, by show r1.1.length ≤ 400000; omega⟩ ?_
  rintro ⟨k, b⟩ ⟨k1, k2, k3⟩
  dsimp only at k1 k2 k3
  simp only [L_r24_Encode_2, Wp_some, Wp_gd, Wp_cond, Wp_bd, Wp_bnd, Wp_bindE, Sum.elim_inl, Sum.elim_inr, condO, condA, decide_eq_true_eq, decide_eq_false_iff_not, Bool.or_eq_true, Bool.or_eq_false_iff, Bool.and_eq_true, Bool.and_eq_false_iff, Bool.not_eq_true', Bool.not_eq_false', bne_iff_ne, bne_eq_false_iff_eq, beq_iff_eq, beq_eq_false_iff_ne, true_and, and_true, Int.not_lt, Int.not_le, ne_eq, not_false_eq_true, implies_true, forall_const, gt_iff_lt, ge_iff_le]
  rw [w64 (x := k + 1) (by omega)]
  exact ⟨fun hk => (EncodeAs_W hl).mono fun r h => ⟨fun _ => by omega, fun _ => by omega⟩, fun _ => k3⟩

theorem column_W {l : List Int} (hl : l.length ≤ 1099511627776) : Wp (F_r27_column l) fun r => r.length ≤ 400000 := by
  simp only [F_r27_column, Wp_some, Wp_gd, Wp_cond, Wp_bd, Wp_bnd, Wp_bindE, Sum.elim_inl, Sum.elim_inr, condO, condA, decide_eq_true_eq, decide_eq_false_iff_not, Bool.or_eq_true, Bool.or_eq_false_iff, Bool.and_eq_true, Bool.and_eq_false_iff, Bool.not_eq_true', Bool.not_eq_false', bne_iff_ne, bne_eq_false_iff_eq, beq_iff_eq, beq_eq_false_iff_ne, true_and, and_true, Int.not_lt, Int.not_le, ne_eq, not_false_eq_true, implies_true, forall_const, gt_iff_lt, ge_iff_le]
  exact Encode24_W hl

theorem PutBlock_W {b x : List Int} (h : b.length + x.length ≤ 70000000000000) : Wp (F_r27_PutBlock b x) fun r => r.length ≤ b.length + 10 + x.length := by
  simp only [F_r27_PutBlock, Wp_some, Wp_gd, Wp_cond, Wp_bd, Wp_bnd, Wp_bindE, Sum.elim_inl, Sum.elim_inr, condO, condA, decide_eq_true_eq, decide_eq_false_iff_not, Bool.or_eq_true, Bool.or_eq_false_iff, Bool.and_eq_true, Bool.and_eq_false_iff, Bool.not_eq_true', Bool.not_eq_false', bne_iff_ne, bne_eq_false_iff_eq, beq_iff_eq, beq_eq_false_iff_ne, true_and, and_true, Int.not_lt, Int.not_le, ne_eq, not_false_eq_true, implies_true, forall_const, gt_iff_lt, ge_iff_le, List.length_append]
  exact (PutVarint_W (wU64_range _) (by omega)).mono fun r h => ⟨by omega, by omega⟩

/-! ### Dictionaries -/
theorem Check23_W {l : List ByteArray} (hl : l.length ≤ 1099511627776) : Wp (F_r23_Check l) fun r => r = 0 → l.length ≤ 32768 ∧ ∀ x ∈ l, x.size ≤ 2048 := by
  simp only [F_r23_Check, Wp_some, Wp_gd, Wp_cond, Wp_bd, Wp_bnd, Wp_bindE, Sum.elim_inl, Sum.elim_inr, condO, condA, decide_eq_true_eq, decide_eq_false_iff_not, Bool.or_eq_true, Bool.or_eq_false_iff, Bool.and_eq_true, Bool.and_eq_false_iff, Bool.not_eq_true', Bool.not_eq_false', bne_iff_ne, bne_eq_false_iff_eq, beq_iff_eq, beq_eq_false_iff_ne, true_and, and_true, Int.not_lt, Int.not_le, ne_eq, not_false_eq_true, implies_true, forall_const, gt_iff_lt, ge_iff_le]
  refine ⟨fun _ h => by omega, fun h0 => ?_⟩
  refine Wp_loop (fun j => 0 ≤ j ∧ j ≤ (l.length : Int) ∧ ∀ x ∈ l.take j.toNat, x.size ≤ 2048) (fun j => ((l.length : Int) - j).toNat) ⟨Int.le_refl _, by omega, by simp⟩ ?_
  rintro i ⟨k1, k2, k3⟩
  simp only [L_r23_Check_2, Wp_some, Wp_gd, Wp_cond, Wp_bd, Wp_bnd, Wp_bindE, Sum.elim_inl, Sum.elim_inr, condO, condA, decide_eq_true_eq, decide_eq_false_iff_not, Bool.or_eq_true, Bool.or_eq_false_iff, Bool.and_eq_true, Bool.and_eq_false_iff, Bool.not_eq_true', Bool.not_eq_false', bne_iff_ne, bne_eq_false_iff_eq, beq_iff_eq, beq_eq_false_iff_ne, true_and, and_true, Int.not_lt, Int.not_le, ne_eq, not_false_eq_true, implies_true, forall_const, gt_iff_lt, ge_iff_le]
  rw [w64 (x := i + 1) (by omega)]
  refine ⟨fun hi => ⟨⟨k1, hi⟩, fun _ h => by omega, fun hs => ⟨⟨by omega, by omega, ?_⟩, by omega⟩⟩, fun hi => ?_⟩
  · intro x hx
    rw [take_getD (d := default) ⟨k1, hi⟩] at hx
    rcases List.mem_append.1 hx with hx | hx
    · exact k3 x hx
    · simp only [List.mem_singleton] at hx
      subst hx
      omega
  · rw [List.take_of_length_le (by omega)] at k3
    refine Wp_loop (fun j => 1 ≤ j) (fun j => ((l.length : Int) - j).toNat) (by omega) ?_
    rintro i k1
    simp only [L_r23_Check_4, Wp_some, Wp_gd, Wp_cond, Wp_bd, Wp_bnd, Wp_bindE, Sum.elim_inl, Sum.elim_inr, condO, condA, decide_eq_true_eq, decide_eq_false_iff_not, Bool.or_eq_true, Bool.or_eq_false_iff, Bool.and_eq_true, Bool.and_eq_false_iff, Bool.not_eq_true', Bool.not_eq_false', bne_iff_ne, bne_eq_false_iff_eq, beq_iff_eq, beq_eq_false_iff_ne, true_and, and_true, Int.not_lt, Int.not_le, ne_eq, not_false_eq_true, implies_true, forall_const, gt_iff_lt, ge_iff_le]
    refine ⟨fun hi => ?_, fun hi => ⟨by omega, k3⟩⟩
    rw [w64 (x := i - 1) (by omega), w64 (x := i + 1) (by omega)]
    exact ⟨by omega, by omega, fun _ h => by omega, fun _ => by omega⟩

theorem common_W {a b : ByteArray} (ha : a.size ≤ 1099511627776) : Wp (F_r23_common a b) fun r => 0 ≤ r ∧ r ≤ (a.size : Int) := by
  simp only [F_r23_common, Wp_some, Wp_gd, Wp_cond, Wp_bd, Wp_bnd, Wp_bindE, Sum.elim_inl, Sum.elim_inr, condO, condA, decide_eq_true_eq, decide_eq_false_iff_not, Bool.or_eq_true, Bool.or_eq_false_iff, Bool.and_eq_true, Bool.and_eq_false_iff, Bool.not_eq_true', Bool.not_eq_false', bne_iff_ne, bne_eq_false_iff_eq, beq_iff_eq, beq_eq_false_iff_ne, true_and, and_true, Int.not_lt, Int.not_le, ne_eq, not_false_eq_true, implies_true, forall_const, gt_iff_lt, ge_iff_le]
  refine Wp_loop (fun j => 0 ≤ j ∧ j ≤ (a.size : Int)) (fun j => ((a.size : Int) - j).toNat) ⟨Int.le_refl _, by omega⟩ ?_
  rintro i ⟨k1, k2⟩
  simp only [L_r23_common_2, Wp_some, Wp_gd, Wp_cond, Wp_bd, Wp_bnd, Wp_bindE, Sum.elim_inl, Sum.elim_inr, condO, condA, decide_eq_true_eq, decide_eq_false_iff_not, Bool.or_eq_true, Bool.or_eq_false_iff, Bool.and_eq_true, Bool.and_eq_false_iff, Bool.not_eq_true', Bool.not_eq_false', bne_iff_ne, bne_eq_false_iff_eq, beq_iff_eq, beq_eq_false_iff_ne, true_and, and_true, Int.not_lt, Int.not_le, ne_eq, not_false_eq_true, implies_true, forall_const, gt_iff_lt, ge_iff_le]
  rw [w64 (x := i + 1) (by omega)]
  exact ⟨fun _ => by omega, fun _ => by omega, fun _ => by omega, fun _ => by omega⟩

theorem Encode23_W {l : List ByteArray} (hl : l.length ≤ 1099511627776) : Wp (F_r23_Encode l) fun r => r.1.length ≤ 70000000 := by
  simp only [F_r23_Encode, Wp_some, Wp_gd, Wp_cond, Wp_bd, Wp_bnd, Wp_bindE, Sum.elim_inl, Sum.elim_inr, condO, condA, decide_eq_true_eq, decide_eq_false_iff_not, Bool.or_eq_true, Bool.or_eq_false_iff, Bool.and_eq_true, Bool.and_eq_false_iff, Bool.not_eq_true', Bool.not_eq_false', bne_iff_ne, bne_eq_false_iff_eq, beq_iff_eq, beq_eq_false_iff_ne, true_and, and_true, Int.not_lt, Int.not_le, ne_eq, not_false_eq_true, implies_true, forall_const, gt_iff_lt, ge_iff_le]
  refine (Check23_W hl).mono fun r1 h1 => ⟨fun _ => by simp, fun h => ?_⟩
  obtain ⟨hn, hs⟩ := h1 h
  refine (PutVarint_W (wU64_range _) (by simp)).mono fun r2 h2 => ?_
  simp only [List.length_nil] at h2
  refine Wp_loop (fun j => 0 ≤ j.1 ∧ j.1 ≤ (l.length : Int) ∧ (j.2.length : Int) ≤ 10 + 2068 * j.1) (fun j => ((l.length : Int) - j.1).toNat) ⟨Int.le_refl _, by show (0 : Int) ≤ _; omega, by show (r2.length : Int) ≤ 10 + 2068 * 0; omega⟩ ?_
  rintro ⟨i, b⟩ ⟨k1, k2, k3⟩
  dsimp only at k1 k2 k3
  simp only [L_r23_Encode_2, Wp_some, Wp_gd, Wp_cond, Wp_bd, Wp_bnd, Wp_bindE, Sum.elim_inl, Sum.elim_inr, condO, condA, decide_eq_true_eq, decide_eq_false_iff_not, Bool.or_eq_true, Bool.or_eq_false_iff, Bool.and_eq_true, Bool.and_eq_false_iff, Bool.not_eq_true', Bool.not_eq_false', bne_iff_ne, bne_eq_false_iff_eq, beq_iff_eq, beq_eq_false_iff_ne, true_and, and_true, Int.not_lt, Int.not_le, ne_eq, not_false_eq_true, implies_true, forall_const, gt_iff_lt, ge_iff_le, List.length_append, strL_length]
  refine ⟨fun hi => ?_, fun hi => by omega⟩
  have hx := getD_int (d := default) hs ⟨k1, hi⟩
  generalize hX : l.getD i.toNat default = x at *
  rw [w64 (x := i + 1) (by omega)]
  have fin : ∀ (c : Int) (b' : List Int), 0 ≤ c ∧ c ≤ (x.size : Int) → (b'.length : Int) ≤ b.length + 10 →
      (0 ≤ i ∧ i < (l.length : Int)) ∧ Wp (F_r23_PutVarint b' (IntKind.wrap .u64 (IntKind.wrap .i64 ((x.size : Int) - c)))) fun r => (0 ≤ c ∧ c ≤ (x.size : Int) ∧ (x.size : Int) ≤ (x.size : Int)) ∧ (r.length + (x.extract c.toNat (x.size : Int).toNat).size) * 1 ≤ 140737488355328 ∧ (0 ≤ i + 1 ∧ i + 1 ≤ (l.length : Int) ∧ ((r.length + (x.extract c.toNat (x.size : Int).toNat).size : Nat) : Int) ≤ 10 + 2068 * (i + 1)) ∧ ((l.length : Int) - (i + 1)).toNat < ((l.length : Int) - i).toNat := by
    intro c b' hc hb
    refine ⟨⟨k1, hi⟩, (PutVarint_W (wU64_range _) (by omega)).mono fun r hr => ?_⟩
    have : (x.extract c.toNat (x.size : Int).toNat).size ≤ 2048 := by
      rw [ByteArray.size_extract]
      omega
    omega
  refine ⟨fun h16 => ?_, fun h16 => fin 0 b (by omega) (by omega)⟩
  rw [Int.tmod_eq_emod_of_nonneg k1] at h16
  rw [w64 (x := i - 1) (by omega)]
  refine ⟨⟨k1, hi⟩, by omega, ?_⟩
  refine (common_W (by omega)).mono fun c hc => ?_
  exact (PutVarint_W (wU64_range _) (by omega)).mono fun r hr => fin c r hc (by omega)

theorem dictionary_W {l : List ByteArray} (hl : l.length ≤ 1099511627776) : Wp (F_r27_dictionary l) fun r => r.length ≤ 70000000 := by
  simp only [F_r27_dictionary, Wp_some, Wp_gd, Wp_cond, Wp_bd, Wp_bnd, Wp_bindE, Sum.elim_inl, Sum.elim_inr, condO, condA, decide_eq_true_eq, decide_eq_false_iff_not, Bool.or_eq_true, Bool.or_eq_false_iff, Bool.and_eq_true, Bool.and_eq_false_iff, Bool.not_eq_true', Bool.not_eq_false', bne_iff_ne, bne_eq_false_iff_eq, beq_iff_eq, beq_eq_false_iff_ne, true_and, and_true, Int.not_lt, Int.not_le, ne_eq, not_false_eq_true, implies_true, forall_const, gt_iff_lt, ge_iff_le]
  exact Encode23_W hl

theorem indexed_W {l : List ByteArray} (hl : l.length ≤ 1099511627776) : Wp (F_r27_indexed l) fun r => r.length ≤ 70500000 := by
  simp only [F_r27_indexed, Wp_some, Wp_gd, Wp_cond, Wp_bd, Wp_bnd, Wp_bindE, Sum.elim_inl, Sum.elim_inr, condO, condA, decide_eq_true_eq, decide_eq_false_iff_not, Bool.or_eq_true, Bool.or_eq_false_iff, Bool.and_eq_true, Bool.and_eq_false_iff, Bool.not_eq_true', Bool.not_eq_false', bne_iff_ne, bne_eq_false_iff_eq, beq_iff_eq, beq_eq_false_iff_ne, true_and, and_true, Int.not_lt, Int.not_le, ne_eq, not_false_eq_true, implies_true, forall_const, gt_iff_lt, ge_iff_le]
  refine (Distinct_W hl).mono fun r1 d => ?_
  have hd := d.len
  refine Wp_loop (fun j => 0 ≤ j.1 ∧ j.1 ≤ (l.length : Int) ∧ (j.2.length : Int) ≤ j.1) (fun j => ((l.length : Int) - j.1).toNat) ⟨Int.le_refl _, by show (0 : Int) ≤ _; omega, Int.le_refl _⟩ ?_
  rintro ⟨i, ids⟩ ⟨k1, k2, k3⟩
  dsimp only at k1 k2 k3
  simp only [L_r27_indexed_2, Wp_some, Wp_gd, Wp_cond, Wp_bd, Wp_bnd, Wp_bindE, Sum.elim_inl, Sum.elim_inr, condO, condA, decide_eq_true_eq, decide_eq_false_iff_not, Bool.or_eq_true, Bool.or_eq_false_iff, Bool.and_eq_true, Bool.and_eq_false_iff, Bool.not_eq_true', Bool.not_eq_false', bne_iff_ne, bne_eq_false_iff_eq, beq_iff_eq, beq_eq_false_iff_ne, true_and, and_true, Int.not_lt, Int.not_le, ne_eq, not_false_eq_true, implies_true, forall_const, gt_iff_lt, ge_iff_le, List.length_append, List.length_cons, List.length_nil]
  rw [w64 (x := i + 1) (by omega)]
  refine ⟨fun hi => ⟨⟨k1, hi⟩, ?_⟩, fun hi => ?_⟩
  · exact (Index_W d.srt (by omega)).mono fun r3 _ => by omega
  · refine (dictionary_W (by omega)).mono fun r5 h5 => ?_
    refine (PutBlock_W (by simp; omega)).mono fun r6 h6 => ?_
    simp only [List.length_nil] at h6
    refine (column_W (by omega)).mono fun r7 h7 => ?_
    exact (PutBlock_W (by omega)).mono fun r8 h8 => by omega

/-! ### Checksums and numbers of a fixed width -/
theorem Crc_W {l : List Int} (hl : l.length ≤ 140737488355328) : Wp (F_r27_Crc l) fun r => 0 ≤ r ∧ r < 4294967296 := by
  simp only [F_r27_Crc, Wp_some, Wp_gd, Wp_cond, Wp_bd, Wp_bnd, Wp_bindE, Sum.elim_inl, Sum.elim_inr, condO, condA, decide_eq_true_eq, decide_eq_false_iff_not, Bool.or_eq_true, Bool.or_eq_false_iff, Bool.and_eq_true, Bool.and_eq_false_iff, Bool.not_eq_true', Bool.not_eq_false', bne_iff_ne, bne_eq_false_iff_eq, beq_iff_eq, beq_eq_false_iff_ne, true_and, and_true, Int.not_lt, Int.not_le, ne_eq, not_false_eq_true, implies_true, forall_const, gt_iff_lt, ge_iff_le]
  refine Wp_loop (fun j => 0 ≤ j.2 ∧ j.2 ≤ (l.length : Int)) (fun j => ((l.length : Int) - j.2).toNat) ⟨Int.le_refl _, by show (0 : Int) ≤ _; omega⟩ ?_
  rintro ⟨c, i⟩ ⟨k1, k2⟩
  dsimp only at k1 k2
  simp only [L_r27_Crc_2, Wp_some, Wp_gd, Wp_cond, Wp_bd, Wp_bnd, Wp_bindE, Sum.elim_inl, Sum.elim_inr, condO, condA, decide_eq_true_eq, decide_eq_false_iff_not, Bool.or_eq_true, Bool.or_eq_false_iff, Bool.and_eq_true, Bool.and_eq_false_iff, Bool.not_eq_true', Bool.not_eq_false', bne_iff_ne, bne_eq_false_iff_eq, beq_iff_eq, beq_eq_false_iff_ne, true_and, and_true, Int.not_lt, Int.not_le, ne_eq, not_false_eq_true, implies_true, forall_const, gt_iff_lt, ge_iff_le]
  rw [w64 (x := i + 1) (by omega)]
  refine ⟨fun hi => ⟨⟨k1, hi⟩, ?_⟩, fun hi => ?_⟩
  · refine Wp_loop (fun j => 0 ≤ j.2 ∧ j.2 ≤ 8) (fun j => (8 - j.2).toNat) ⟨Int.le_refl _, by show (0 : Int) ≤ 8; decide⟩ ?_
    rintro ⟨c, k⟩ ⟨q1, q2⟩
    dsimp only at q1 q2
    simp only [L_r27_Crc_4, Wp_some, Wp_gd, Wp_cond, Wp_bd, Wp_bnd, Wp_bindE, Sum.elim_inl, Sum.elim_inr, condO, condA, decide_eq_true_eq, decide_eq_false_iff_not, Bool.or_eq_true, Bool.or_eq_false_iff, Bool.and_eq_true, Bool.and_eq_false_iff, Bool.not_eq_true', Bool.not_eq_false', bne_iff_ne, bne_eq_false_iff_eq, beq_iff_eq, beq_eq_false_iff_ne, true_and, and_true, Int.not_lt, Int.not_le, ne_eq, not_false_eq_true, implies_true, forall_const, gt_iff_lt, ge_iff_le]
    rw [w64 (x := k + 1) (by omega)]
    exact ⟨fun hk => ⟨fun _ => by omega, fun _ => by omega⟩, fun hk => by omega⟩
  · rw [wU32]
    omega

theorem Put_W {b : List Int} {v w : Int} (hw : 0 ≤ w ∧ w ≤ 8) (hb : b.length ≤ 70000000000000) : Wp (F_r27_Put b v w) fun r => r.length = b.length + w.toNat := by
  simp only [F_r27_Put, Wp_some, Wp_gd, Wp_cond, Wp_bd, Wp_bnd, Wp_bindE, Sum.elim_inl, Sum.elim_inr, condO, condA, decide_eq_true_eq, decide_eq_false_iff_not, Bool.or_eq_true, Bool.or_eq_false_iff, Bool.and_eq_true, Bool.and_eq_false_iff, Bool.not_eq_true', Bool.not_eq_false', bne_iff_ne, bne_eq_false_iff_eq, beq_iff_eq, beq_eq_false_iff_ne, true_and, and_true, Int.not_lt, Int.not_le, ne_eq, not_false_eq_true, implies_true, forall_const, gt_iff_lt, ge_iff_le]
  rw [w64 (x := w - 1) (by omega)]
  refine Wp_loop (fun j => -1 ≤ j.1 ∧ j.1 < w ∧ (j.2.length : Int) = b.length + (w - 1 - j.1)) (fun j => (j.1 + 1).toNat) ⟨by show -1 ≤ w - 1; omega, by show w - 1 < w; omega, by show (b.length : Int) = b.length + (w - 1 - (w - 1)); omega⟩ ?_
  rintro ⟨k, c⟩ ⟨k1, k2, k3⟩
  dsimp only at k1 k2 k3
  simp only [L_r27_Put_2, Wp_some, Wp_gd, Wp_cond, Wp_bd, Wp_bnd, Wp_bindE, Sum.elim_inl, Sum.elim_inr, condO, condA, decide_eq_true_eq, decide_eq_false_iff_not, Bool.or_eq_true, Bool.or_eq_false_iff, Bool.and_eq_true, Bool.and_eq_false_iff, Bool.not_eq_true', Bool.not_eq_false', bne_iff_ne, bne_eq_false_iff_eq, beq_iff_eq, beq_eq_false_iff_ne, true_and, and_true, Int.not_lt, Int.not_le, ne_eq, not_false_eq_true, implies_true, forall_const, gt_iff_lt, ge_iff_le, List.length_append, List.length_cons, List.length_nil]
  rw [w64 (x := 8 * k) (by omega), w64 (x := k - 1) (by omega)]
  exact ⟨fun hk => ⟨by omega, by omega, by omega, by omega⟩, fun hk => by omega⟩
end Go.Abs
