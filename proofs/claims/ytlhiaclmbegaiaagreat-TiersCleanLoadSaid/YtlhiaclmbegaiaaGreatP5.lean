/- DERIVED. Plain laws, part 5: drawn events are those of a segment. -/
import Derived.Test.YtlhiaclmbegaiaaGreatP4
set_option linter.unusedVariables false
set_option linter.unusedSimpArgs false
namespace Go.Abs
open Go

theorem place_W {e : S_Event} (h : EvOk e) : Wp (F_r12_place e) fun r => r = 0 := by
  have h1 := h.host
  have h2 := h.file
  have h3 := h.frm
  have h4 := h.to
  have h5 := h.lines.le
  have h6 := h.cnt
  simp only [F_r12_place, Wp_some, Wp_gd, Wp_cond, Wp_bd, Wp_bnd, Wp_bindE, Sum.elim_inl, Sum.elim_inr, condO, condA, decide_eq_true_eq, decide_eq_false_iff_not, Bool.or_eq_true, Bool.or_eq_false_iff, Bool.and_eq_true, Bool.and_eq_false_iff, Bool.not_eq_true', Bool.not_eq_false', bne_iff_ne, bne_eq_false_iff_eq, beq_iff_eq, beq_eq_false_iff_ne, true_and, and_true, Int.not_lt, Int.not_le, ne_eq, not_false_eq_true, implies_true, forall_const, gt_iff_lt, ge_iff_le]
  intro q
  omega
theorem weight_W {w : Int} (h : 1 ≤ w ∧ w ≤ 5040 ∧ Int.tmod 5040 w = 0) : Wp (F_r12_weight w) fun r => r = true := by
  simp only [F_r12_weight, Wp_some, Wp_gd, Wp_cond, Wp_bd, Wp_bnd, Wp_bindE, Sum.elim_inl, Sum.elim_inr, condO, condA, decide_eq_true_eq, decide_eq_false_iff_not, Bool.or_eq_true, Bool.or_eq_false_iff, Bool.and_eq_true, Bool.and_eq_false_iff, Bool.not_eq_true', Bool.not_eq_false', bne_iff_ne, bne_eq_false_iff_eq, beq_iff_eq, beq_eq_false_iff_ne, true_and, and_true, Int.not_lt, Int.not_le, ne_eq, not_false_eq_true, implies_true, forall_const, gt_iff_lt, ge_iff_le]
  refine ⟨fun _ => by omega, ?_⟩
  simp [h]
theorem linesC_W {e : S_Event} (h : EvOk e) : Wp (F_r12_lines e 2000) fun r => r = 0 := by
  have h3 := h.frm
  have h4 := h.to
  have h5 := h.lines.le
  have h6 := h.cnt
  simp only [F_r12_lines, Wp_some, Wp_gd, Wp_cond, Wp_bd, Wp_bnd, Wp_bindE, Sum.elim_inl, Sum.elim_inr, condO, condA, decide_eq_true_eq, decide_eq_false_iff_not, Bool.or_eq_true, Bool.or_eq_false_iff, Bool.and_eq_true, Bool.and_eq_false_iff, Bool.not_eq_true', Bool.not_eq_false', bne_iff_ne, bne_eq_false_iff_eq, beq_iff_eq, beq_eq_false_iff_ne, true_and, and_true, Int.not_lt, Int.not_le, ne_eq, not_false_eq_true, implies_true, forall_const, gt_iff_lt, ge_iff_le]
  refine ⟨fun q => by omega, fun _ => ⟨fun q => by omega, fun _ => ?_⟩⟩
  refine Wp_loop (fun j => 0 ≤ j.2 ∧ j.2 ≤ (e.Lines.length : Int) ∧ e.From ≤ j.1 ∧ LOk j.1 e.To (e.Lines.drop j.2.toNat)) (fun j => ((e.Lines.length : Int) - j.2).toNat) ⟨Int.le_refl _, by show (0 : Int) ≤ _; omega, Int.le_refl _, h.lines⟩ ?_
  rintro ⟨a, i⟩ ⟨k1, k2, k3, k4⟩
  dsimp only at k1 k2 k3 k4
  have k5 := k4.le
  simp only [L_r12_lines_2, Wp_some, Wp_gd, Wp_cond, Wp_bd, Wp_bnd, Wp_bindE, Sum.elim_inl, Sum.elim_inr, condO, condA, decide_eq_true_eq, decide_eq_false_iff_not, Bool.or_eq_true, Bool.or_eq_false_iff, Bool.and_eq_true, Bool.and_eq_false_iff, Bool.not_eq_true', Bool.not_eq_false', bne_iff_ne, bne_eq_false_iff_eq, beq_iff_eq, beq_eq_false_iff_ne, true_and, and_true, Int.not_lt, Int.not_le, ne_eq, not_false_eq_true, implies_true, forall_const, gt_iff_lt, ge_iff_le]
  intro hi
  have hd := drop_getD (d := default) ⟨k1, hi⟩
  have hdl : (e.Lines.drop i.toNat).length = e.Lines.length - i.toNat := by simp
  rw [hd] at k4
  generalize e.Lines.getD i.toNat default = x at *
  obtain ⟨q1, q2, q3, q4⟩ := k4
  have q5 := q4.le
  have hdl2 : (e.Lines.drop (i + 1).toNat).length = e.Lines.length - (i + 1).toNat := by simp
  rw [w64 (x := e.To - a) (by omega), w64 (x := a + x.Length) (by omega), w64 (x := i + 1) (by omega), w64 (x := (e.Lines.length : Int) - 1) (by omega)]
  refine ⟨⟨k1, hi⟩, fun q => ?_, fun _ => ⟨fun q => by omega, fun _ => ⟨⟨by omega, by omega, by omega, q4⟩, by omega⟩⟩⟩
  omega

theorem Check_W {e : S_Event} (h : EvOk e) : Wp (F_r12_Check e) fun r => r = 0 := by
  have ht := h.time
  simp only [F_r12_Check, Wp_some, Wp_gd, Wp_cond, Wp_bd, Wp_bnd, Wp_bindE, Sum.elim_inl, Sum.elim_inr, condO, condA, decide_eq_true_eq, decide_eq_false_iff_not, Bool.or_eq_true, Bool.or_eq_false_iff, Bool.and_eq_true, Bool.and_eq_false_iff, Bool.not_eq_true', Bool.not_eq_false', bne_iff_ne, bne_eq_false_iff_eq, beq_iff_eq, beq_eq_false_iff_ne, true_and, and_true, Int.not_lt, Int.not_le, ne_eq, not_false_eq_true, implies_true, forall_const, gt_iff_lt, ge_iff_le]
  refine (place_W h).mono fun r1 e1 => ⟨fun q => by omega, fun _ => ?_⟩
  refine (weight_W h.weight).mono fun r3 e3 => ⟨fun q => by rw [e3] at q; exact Bool.noConfusion q, fun _ => ?_⟩
  refine (linesC_W h).mono fun r4 e4 => ⟨fun q => by omega, fun _ => ⟨fun q => ?_, fun _ => ?_⟩⟩
  · have := h.trace
    have := h.stream
    omega
  · refine (Sort_W h.fields).mono fun r5 e5 => ?_
    subst e5
    refine ⟨fun q => absurd rfl q, fun _ => ?_⟩
    refine (SameF_W e.Fields (by have := h.fields.len; omega)).mono fun r6 e6 => ⟨fun q => by rw [e6] at q; exact Bool.noConfusion q, fun _ => ?_⟩
    have hl := h.fields.len
    refine Wp_loop (fun j => 0 ≤ j ∧ j ≤ (e.Fields.length : Int)) (fun j => ((e.Fields.length : Int) - j).toNat) ⟨Int.le_refl _, by omega⟩ ?_
    rintro i ⟨k1, k2⟩
    simp only [L_r12_Check_2, Wp_some, Wp_gd, Wp_cond, Wp_bd, Wp_bnd, Wp_bindE, Sum.elim_inl, Sum.elim_inr, condO, condA, decide_eq_true_eq, decide_eq_false_iff_not, Bool.or_eq_true, Bool.or_eq_false_iff, Bool.and_eq_true, Bool.and_eq_false_iff, Bool.not_eq_true', Bool.not_eq_false', bne_iff_ne, bne_eq_false_iff_eq, beq_iff_eq, beq_eq_false_iff_ne, true_and, and_true, Int.not_lt, Int.not_le, ne_eq, not_false_eq_true, implies_true, forall_const, gt_iff_lt, ge_iff_le]
    intro hi
    have := getD_int (d := default) (R := fun f : S_Field => f.Value.size ≤ 20) h.fields.2 ⟨k1, hi⟩
    rw [w64 (x := i + 1) (by omega)]
    refine ⟨⟨k1, hi⟩, fun q => by omega, fun _ => by omega⟩

theorem Check27_W {l : List S_Event} {n : Int} (h : EvsOk l n) (hn : n ≤ 150) : Wp (F_r27_Check l) fun r => r = 0 := by
  have hlen := h.len
  simp only [F_r27_Check, Wp_some, Wp_gd, Wp_cond, Wp_bd, Wp_bnd, Wp_bindE, Sum.elim_inl, Sum.elim_inr, condO, condA, decide_eq_true_eq, decide_eq_false_iff_not, Bool.or_eq_true, Bool.or_eq_false_iff, Bool.and_eq_true, Bool.and_eq_false_iff, Bool.not_eq_true', Bool.not_eq_false', bne_iff_ne, bne_eq_false_iff_eq, beq_iff_eq, beq_eq_false_iff_ne, true_and, and_true, Int.not_lt, Int.not_le, ne_eq, not_false_eq_true, implies_true, forall_const, gt_iff_lt, ge_iff_le]
  refine ⟨fun q => by omega, fun _ => ?_⟩
  refine Wp_loop (fun j => 0 ≤ j ∧ j ≤ (l.length : Int)) (fun j => ((l.length : Int) - j).toNat) ⟨Int.le_refl _, by omega⟩ ?_
  rintro i ⟨k1, k2⟩
  simp only [L_r27_Check_2, Wp_some, Wp_gd, Wp_cond, Wp_bd, Wp_bnd, Wp_bindE, Sum.elim_inl, Sum.elim_inr, condO, condA, decide_eq_true_eq, decide_eq_false_iff_not, Bool.or_eq_true, Bool.or_eq_false_iff, Bool.and_eq_true, Bool.and_eq_false_iff, Bool.not_eq_true', Bool.not_eq_false', bne_iff_ne, bne_eq_false_iff_eq, beq_iff_eq, beq_eq_false_iff_ne, true_and, and_true, Int.not_lt, Int.not_le, ne_eq, not_false_eq_true, implies_true, forall_const, gt_iff_lt, ge_iff_le]
  refine ⟨fun hi => ⟨⟨k1, hi⟩, ?_⟩, fun hi => ?_⟩
  · refine (Check_W (getD_int (d := default) h.ok ⟨k1, hi⟩)).mono fun r e => ⟨fun q => by omega, fun _ => ?_⟩
    rw [w64 (x := i + 1) (by omega)]
    omega
  · refine Wp_loop (fun j => 1 ≤ j) (fun j => ((l.length : Int) - j).toNat) (by omega) ?_
    rintro i k1
    simp only [L_r27_Check_4, Wp_some, Wp_gd, Wp_cond, Wp_bd, Wp_bnd, Wp_bindE, Sum.elim_inl, Sum.elim_inr, condO, condA, decide_eq_true_eq, decide_eq_false_iff_not, Bool.or_eq_true, Bool.or_eq_false_iff, Bool.and_eq_true, Bool.and_eq_false_iff, Bool.not_eq_true', Bool.not_eq_false', bne_iff_ne, bne_eq_false_iff_eq, beq_iff_eq, beq_eq_false_iff_ne, true_and, and_true, Int.not_lt, Int.not_le, ne_eq, not_false_eq_true, implies_true, forall_const, gt_iff_lt, ge_iff_le, Less_eq]
    refine ⟨fun hi => ?_, fun hi => ?_⟩
    · rw [w64 (x := i - 1) (by omega), w64 (x := i + 1) (by omega)]
      refine ⟨by omega, by omega, fun q => ?_, fun _ => by omega⟩
      have := List.pairwise_iff_getElem.1 h.lt (i - 1).toNat i.toNat (by omega) (by omega) (by omega)
      rw [getD_get (by omega), getD_get (by omega)] at q
      exact absurd this q
    · refine (words_W h (by omega)).mono fun r6 ⟨_, h6, _⟩ => ⟨fun _ => ?_, fun q => by omega⟩
      refine (names_W h (by omega)).mono fun r7 ⟨_, h7⟩ => ?_
      omega
end Go.Abs
