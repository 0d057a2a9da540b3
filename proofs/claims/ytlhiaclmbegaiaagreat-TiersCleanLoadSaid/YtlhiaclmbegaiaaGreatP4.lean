/- DERIVED. Plain laws, part 4: texts, words and names of events; events are well formed. -/
import Derived.Test.YtlhiaclmbegaiaaGreatP3
set_option linter.unusedVariables false
set_option linter.unusedSimpArgs false
namespace Go.Abs
open Go

theorem Wp.monoE {α : Type} {m : Option α} {R R' : α → Prop} (h : Wp m R) (k : ∀ r, m = some r → R r → R' r) : Wp m R' := by
  obtain ⟨r, h1, h2⟩ := h
  exact ⟨r, h1, k r h1 h2⟩

theorem LOk.txt : ∀ {l : List S_Line} {a b : Int}, LOk a b l → ∀ x ∈ l, x.Text.size ≤ 60
  | [], _, _, _ => by simp
  | y :: r, a, b, ⟨_, _, h, k⟩ => by
    intro x hx
    rcases List.mem_cons.1 hx with hx | hx
    · subst hx
      exact h
    · exact k.txt x hx

theorem ETxt_W {e : S_Event} (h : ∀ x ∈ e.Lines, x.Text.size ≤ 60) (hl : e.Lines.length ≤ 1000) : Wp (F_r12_Text e) fun r => r.size ≤ 61 * e.Lines.length := by
  simp only [F_r12_Text, Wp_some, Wp_gd, Wp_cond, Wp_bd, Wp_bnd, Wp_bindE, Sum.elim_inl, Sum.elim_inr, condO, condA, decide_eq_true_eq, decide_eq_false_iff_not, Bool.or_eq_true, Bool.or_eq_false_iff, Bool.and_eq_true, Bool.and_eq_false_iff, Bool.not_eq_true', Bool.not_eq_false', bne_iff_ne, bne_eq_false_iff_eq, beq_iff_eq, beq_eq_false_iff_ne, true_and, and_true, Int.not_lt, Int.not_le, ne_eq, not_false_eq_true, implies_true, forall_const, gt_iff_lt, ge_iff_le]
  refine Wp_loop (fun j => 0 ≤ j.2 ∧ j.2 ≤ (e.Lines.length : Int) ∧ (j.1.size : Int) ≤ 61 * j.2) (fun j => ((e.Lines.length : Int) - j.2).toNat) ⟨Int.le_refl _, by show (0 : Int) ≤ _; omega, by decide⟩ ?_
  rintro ⟨s, i⟩ ⟨k1, k2, k3⟩
  dsimp only at k1 k2 k3
  simp only [L_r12_Text_2, Wp_some, Wp_gd, Wp_cond, Wp_bd, Wp_bnd, Wp_bindE, Sum.elim_inl, Sum.elim_inr, condO, condA, decide_eq_true_eq, decide_eq_false_iff_not, Bool.or_eq_true, Bool.or_eq_false_iff, Bool.and_eq_true, Bool.and_eq_false_iff, Bool.not_eq_true', Bool.not_eq_false', bne_iff_ne, bne_eq_false_iff_eq, beq_iff_eq, beq_eq_false_iff_ne, true_and, and_true, Int.not_lt, Int.not_le, ne_eq, not_false_eq_true, implies_true, forall_const, gt_iff_lt, ge_iff_le]
  rw [w64 (x := i + 1) (by omega)]
  have h10 : (ByteArray.mk #[10]).size = 1 := rfl
  refine ⟨fun hi => ?_, fun hi => by omega⟩
  have hx := getD_int (d := default) h ⟨k1, hi⟩
  simp only [ByteArray.size_append, h10]
  refine ⟨fun hp => ⟨by omega, ⟨k1, hi⟩, by omega, ⟨by omega, by omega, by omega⟩, by omega⟩, fun hp => ⟨⟨k1, hi⟩, by omega, ⟨by omega, by omega, by omega⟩, by omega⟩⟩

theorem Letter_W (x : Int) : Wp (F_r27_letter x) fun _ => True := by
  simp only [F_r27_letter, Wp_some, Wp_gd, Wp_cond, Wp_bd, Wp_bnd, Wp_bindE, Sum.elim_inl, Sum.elim_inr, condO, condA, decide_eq_true_eq, decide_eq_false_iff_not, Bool.or_eq_true, Bool.or_eq_false_iff, Bool.and_eq_true, Bool.and_eq_false_iff, Bool.not_eq_true', Bool.not_eq_false', bne_iff_ne, bne_eq_false_iff_eq, beq_iff_eq, beq_eq_false_iff_ne, true_and, and_true, Int.not_lt, Int.not_le, ne_eq, not_false_eq_true, implies_true, forall_const, gt_iff_lt, ge_iff_le]

theorem Words_W {s : ByteArray} (hs : s.size ≤ 1073741824) : Wp (F_r27_Words s) fun r => r.Pairwise sLt ∧ r.length ≤ s.size + 1 := by
  simp only [F_r27_Words, Wp_some, Wp_gd, Wp_cond, Wp_bd, Wp_bnd, Wp_bindE, Sum.elim_inl, Sum.elim_inr, condO, condA, decide_eq_true_eq, decide_eq_false_iff_not, Bool.or_eq_true, Bool.or_eq_false_iff, Bool.and_eq_true, Bool.and_eq_false_iff, Bool.not_eq_true', Bool.not_eq_false', bne_iff_ne, bne_eq_false_iff_eq, beq_iff_eq, beq_eq_false_iff_ne, true_and, and_true, Int.not_lt, Int.not_le, ne_eq, not_false_eq_true, implies_true, forall_const, gt_iff_lt, ge_iff_le]
  refine Wp_loop (fun j => 0 ≤ j.1 ∧ j.1 ≤ (s.size : Int) + 1 ∧ (j.2.1.length : Int) ≤ j.1 ∧ (j.2.2.length : Int) ≤ j.1) (fun j => ((s.size : Int) + 1 - j.1).toNat) ⟨Int.le_refl _, by show (0 : Int) ≤ _; omega, Int.le_refl _, Int.le_refl _⟩ ?_
  rintro ⟨i, out, word⟩ ⟨k1, k2, k3, k4⟩
  dsimp only at k1 k2 k3 k4
  simp only [L_r27_Words_2, Wp_some, Wp_gd, Wp_cond, Wp_bd, Wp_bnd, Wp_bindE, Sum.elim_inl, Sum.elim_inr, condO, condA, decide_eq_true_eq, decide_eq_false_iff_not, Bool.or_eq_true, Bool.or_eq_false_iff, Bool.and_eq_true, Bool.and_eq_false_iff, Bool.not_eq_true', Bool.not_eq_false', bne_iff_ne, bne_eq_false_iff_eq, beq_iff_eq, beq_eq_false_iff_ne, true_and, and_true, Int.not_lt, Int.not_le, ne_eq, not_false_eq_true, implies_true, forall_const, gt_iff_lt, ge_iff_le, List.length_append, List.length_cons, List.length_nil]
  rw [w64 (x := i + 1) (by omega)]
  refine ⟨fun hi => ⟨fun h => ⟨⟨k1, h⟩, (Letter_W _).mono fun c _ => ⟨fun _ => by omega, fun _ => ⟨fun _ => by omega, fun _ => by omega⟩⟩⟩, fun h => ⟨fun q => absurd trivial q, fun _ => by omega, fun _ => by omega⟩⟩, fun hi => (Distinct_W (by omega)).mono fun r d => ⟨d.srt, by have := d.len; omega⟩⟩

def wordsOf (e : S_Event) (w : List ByteArray) : Prop := ∃ t, F_r12_Text e = some t ∧ F_r27_Words t = some w

theorem EvOk.txt {e : S_Event} (h : EvOk e) : ∀ x ∈ e.Lines, x.Text.size ≤ 60 := h.lines.txt

theorem words_W {l : List S_Event} {n : Int} (h : EvsOk l n) (hn : n ≤ 10000) : Wp (F_r27_words l) fun r => r.Pairwise sLt ∧ (r.length : Int) ≤ 184 * n ∧ ∀ e ∈ l, ∀ w, wordsOf e w → ∀ x ∈ w, Din x r := by
  have hlen := h.len
  simp only [F_r27_words, Wp_some, Wp_gd, Wp_cond, Wp_bd, Wp_bnd, Wp_bindE, Sum.elim_inl, Sum.elim_inr, condO, condA, decide_eq_true_eq, decide_eq_false_iff_not, Bool.or_eq_true, Bool.or_eq_false_iff, Bool.and_eq_true, Bool.and_eq_false_iff, Bool.not_eq_true', Bool.not_eq_false', bne_iff_ne, bne_eq_false_iff_eq, beq_iff_eq, beq_eq_false_iff_ne, true_and, and_true, Int.not_lt, Int.not_le, ne_eq, not_false_eq_true, implies_true, forall_const, gt_iff_lt, ge_iff_le]
  refine Wp_loop (fun j => 0 ≤ j.1 ∧ j.1 ≤ (l.length : Int) ∧ (j.2.length : Int) ≤ 184 * j.1 ∧ ∀ e ∈ l.take j.1.toNat, ∀ w, wordsOf e w → ∀ x ∈ w, x ∈ j.2) (fun j => ((l.length : Int) - j.1).toNat) ⟨Int.le_refl _, by show (0 : Int) ≤ _; omega, by decide, by simp⟩ ?_
  rintro ⟨i, acc⟩ ⟨k1, k2, k3, k4⟩
  dsimp only at k1 k2 k3 k4
  simp only [L_r27_words_2, Wp_some, Wp_gd, Wp_cond, Wp_bd, Wp_bnd, Wp_bindE, Sum.elim_inl, Sum.elim_inr, condO, condA, decide_eq_true_eq, decide_eq_false_iff_not, Bool.or_eq_true, Bool.or_eq_false_iff, Bool.and_eq_true, Bool.and_eq_false_iff, Bool.not_eq_true', Bool.not_eq_false', bne_iff_ne, bne_eq_false_iff_eq, beq_iff_eq, beq_eq_false_iff_ne, true_and, and_true, Int.not_lt, Int.not_le, ne_eq, not_false_eq_true, implies_true, forall_const, gt_iff_lt, ge_iff_le, List.length_append]
  refine ⟨fun hi => ⟨⟨k1, hi⟩, ?_⟩, fun hi => ?_⟩
  · rw [w64 (x := i + 1) (by omega)]
    have he := getD_int (d := default) h.ok ⟨k1, hi⟩
    have hl := he.cnt
    refine (ETxt_W he.txt (by omega)).monoE fun t ht h2 => ?_
    refine (Words_W (by omega)).monoE fun w hw h3 => ?_
    refine ⟨by omega, ⟨by omega, by omega, by omega, ?_⟩, by omega⟩
    intro e hm w' hw' x hx
    rw [take_getD (d := default) ⟨k1, hi⟩] at hm
    rcases List.mem_append.1 hm with hm | hm
    · exact List.mem_append_left _ (k4 e hm w' hw' x hx)
    · simp only [List.mem_singleton] at hm
      subst hm
      obtain ⟨t', q1, q2⟩ := hw'
      rw [ht] at q1
      cases q1
      rw [hw] at q2
      cases q2
      exact List.mem_append_right _ hx
  · refine (Distinct_W (by omega)).mono fun r d => ⟨d.srt, by have := d.len; omega, fun e he w hw x hx => d.c x (k4 e ?_ w hw x hx)⟩
    rw [List.take_of_length_le (by omega)]
    exact he

theorem names_W {l : List S_Event} {n : Int} (h : EvsOk l n) (hn : n ≤ 10000) : Wp (F_r27_names l) fun r => r.Pairwise sLt ∧ (r.length : Int) ≤ 4 * n := by
  have hlen := h.len
  simp only [F_r27_names, Wp_some, Wp_gd, Wp_cond, Wp_bd, Wp_bnd, Wp_bindE, Sum.elim_inl, Sum.elim_inr, condO, condA, decide_eq_true_eq, decide_eq_false_iff_not, Bool.or_eq_true, Bool.or_eq_false_iff, Bool.and_eq_true, Bool.and_eq_false_iff, Bool.not_eq_true', Bool.not_eq_false', bne_iff_ne, bne_eq_false_iff_eq, beq_iff_eq, beq_eq_false_iff_ne, true_and, and_true, Int.not_lt, Int.not_le, ne_eq, not_false_eq_true, implies_true, forall_const, gt_iff_lt, ge_iff_le]
  refine Wp_loop (fun j => 0 ≤ j.1 ∧ j.1 ≤ (l.length : Int) ∧ (j.2.length : Int) ≤ 4 * j.1) (fun j => ((l.length : Int) - j.1).toNat) ⟨Int.le_refl _, by show (0 : Int) ≤ _; omega, by decide⟩ ?_
  rintro ⟨i, acc⟩ ⟨k1, k2, k3⟩
  dsimp only at k1 k2 k3
  simp only [L_r27_names_2, Wp_some, Wp_gd, Wp_cond, Wp_bd, Wp_bnd, Wp_bindE, Sum.elim_inl, Sum.elim_inr, condO, condA, decide_eq_true_eq, decide_eq_false_iff_not, Bool.or_eq_true, Bool.or_eq_false_iff, Bool.and_eq_true, Bool.and_eq_false_iff, Bool.not_eq_true', Bool.not_eq_false', bne_iff_ne, bne_eq_false_iff_eq, beq_iff_eq, beq_eq_false_iff_ne, true_and, and_true, Int.not_lt, Int.not_le, ne_eq, not_false_eq_true, implies_true, forall_const, gt_iff_lt, ge_iff_le, List.length_append]
  refine ⟨fun hi => ?_, fun hi => ?_⟩
  · rw [w64 (x := i + 1) (by omega)]
    have he := getD_int (d := default) h.ok ⟨k1, hi⟩
    have hf := he.fields.len
    refine Wp_loop (fun j => 0 ≤ j.1 ∧ j.1 ≤ (((l.getD i.toNat default).Fields).length : Int) ∧ (j.2.length : Int) ≤ 4 * i + j.1) (fun j => ((((l.getD i.toNat default).Fields).length : Int) - j.1).toNat) ⟨Int.le_refl _, by show (0 : Int) ≤ _; omega, by show (acc.length : Int) ≤ 4 * i + 0; omega⟩ ?_
    rintro ⟨k, acc⟩ ⟨q1, q2, q3⟩
    dsimp only at q1 q2 q3
    simp only [L_r27_names_4, Wp_some, Wp_gd, Wp_cond, Wp_bd, Wp_bnd, Wp_bindE, Sum.elim_inl, Sum.elim_inr, condO, condA, decide_eq_true_eq, decide_eq_false_iff_not, Bool.or_eq_true, Bool.or_eq_false_iff, Bool.and_eq_true, Bool.and_eq_false_iff, Bool.not_eq_true', Bool.not_eq_false', bne_iff_ne, bne_eq_false_iff_eq, beq_iff_eq, beq_eq_false_iff_ne, true_and, and_true, Int.not_lt, Int.not_le, ne_eq, not_false_eq_true, implies_true, forall_const, gt_iff_lt, ge_iff_le, List.length_append, List.length_cons, List.length_nil]
    refine ⟨⟨k1, hi⟩, fun hk => ?_, fun hk => ⟨⟨by omega, by omega, by omega⟩, by omega⟩⟩
    rw [w64 (x := k + 1) (by omega)]
    exact ⟨⟨q1, hk⟩, by omega, ⟨by omega, by omega, by omega⟩, by omega⟩
  · exact (Distinct_W (by omega)).mono fun r d => ⟨d.srt, by have := d.len; omega⟩

/-! ### Fields -/
def nameOk (s : ByteArray) : Prop := 1 ≤ s.size ∧ s.size ≤ 32 ∧ ∀ i, i < s.size → 97 ≤ bt s (i : Int) ∧ bt s (i : Int) ≤ 122
instance (s : ByteArray) : Decidable (nameOk s) := by unfold nameOk; infer_instance
theorem fNames_ok : ∀ s ∈ fNames, nameOk s := by decide +kernel
theorem fNames_lt : fNames.Pairwise sLt := by
  have : fNames.Pairwise fun a b => Op.bytesLess a.toList b.toList = true := by decide +kernel
  exact this
theorem FieldName_W {s : ByteArray} (h : nameOk s) : Wp (F_r11_FieldName s) fun r => r = true := by
  obtain ⟨h1, h2, h3⟩ := h
  have hb : ∀ i : Int, 0 ≤ i ∧ i < (s.size : Int) → 97 ≤ bt s i ∧ bt s i ≤ 122 := by
    intro i hi
    have := h3 i.toNat (by omega)
    rwa [Int.toNat_of_nonneg hi.1] at this
  have h0 := hb 0 (by omega)
  simp only [F_r11_FieldName, F_r01_Letter, Wp_some, Wp_gd, Wp_cond, Wp_bd, Wp_bnd, Wp_bindE, Sum.elim_inl, Sum.elim_inr, condO, condA, decide_eq_true_eq, decide_eq_false_iff_not, Bool.or_eq_true, Bool.or_eq_false_iff, Bool.and_eq_true, Bool.and_eq_false_iff, Bool.not_eq_true', Bool.not_eq_false', bne_iff_ne, bne_eq_false_iff_eq, beq_iff_eq, beq_eq_false_iff_ne, true_and, and_true, Int.not_lt, Int.not_le, ne_eq, not_false_eq_true, implies_true, forall_const, gt_iff_lt, ge_iff_le]
  refine ⟨fun _ => by omega, ⟨fun _ => ⟨fun _ => by omega, fun h => ?_, fun h => ?_⟩, fun h => by omega⟩⟩
  · omega
  · refine Wp_loop (fun j => 0 ≤ j ∧ j ≤ (s.size : Int)) (fun j => ((s.size : Int) - j).toNat) ⟨Int.le_refl _, by omega⟩ ?_
    rintro i ⟨k1, k2⟩
    simp only [L_r11_FieldName_2, F_r01_Word, F_r01_Digit, F_r01_Letter, Wp_some, Wp_gd, Wp_cond, Wp_bd, Wp_bnd, Wp_bindE, Sum.elim_inl, Sum.elim_inr, condO, condA, decide_eq_true_eq, decide_eq_false_iff_not, Bool.or_eq_true, Bool.or_eq_false_iff, Bool.and_eq_true, Bool.and_eq_false_iff, Bool.not_eq_true', Bool.not_eq_false', bne_iff_ne, bne_eq_false_iff_eq, beq_iff_eq, beq_eq_false_iff_ne, true_and, and_true, Int.not_lt, Int.not_le, ne_eq, not_false_eq_true, implies_true, forall_const, gt_iff_lt, ge_iff_le]
    intro hi
    have hbi := hb i ⟨k1, hi⟩
    rw [w64 (x := i + 1) (by omega)]
    exact ⟨⟨k1, hi⟩, fun _ => ⟨fun _ => ⟨k1, hi⟩, fun q => by omega, fun _ => by omega⟩, fun q => by omega⟩

theorem FOk.name {l : List S_Field} (h : FOk l) : ∀ f ∈ l, f.Name ∈ fNames := fun f hf => h.1.subset (List.mem_map_of_mem hf)
theorem FOk.srt {l : List S_Field} (h : FOk l) : l.Pairwise fun a b => sLt a.Name b.Name := List.pairwise_map.1 (fNames_lt.sublist h.1)
theorem FOk.adj {l : List S_Field} (h : FOk l) {i : Int} (h1 : 1 ≤ i) (h2 : i < (l.length : Int)) : sLt (l.getD (i - 1).toNat default).Name (l.getD i.toNat default).Name := by
  rw [getD_get (by omega), getD_get (by omega)]
  exact List.pairwise_iff_getElem.1 h.srt _ _ _ _ (by omega)

theorem Sort_W {l : List S_Field} (h : FOk l) : Wp (F_r11_Sort l) fun r => r = (l, 0) := by
  have hlen := h.len
  simp only [F_r11_Sort, Wp_some, Wp_gd, Wp_cond, Wp_bd, Wp_bnd, Wp_bindE, Sum.elim_inl, Sum.elim_inr, condO, condA, decide_eq_true_eq, decide_eq_false_iff_not, Bool.or_eq_true, Bool.or_eq_false_iff, Bool.and_eq_true, Bool.and_eq_false_iff, Bool.not_eq_true', Bool.not_eq_false', bne_iff_ne, bne_eq_false_iff_eq, beq_iff_eq, beq_eq_false_iff_ne, true_and, and_true, Int.not_lt, Int.not_le, ne_eq, not_false_eq_true, implies_true, forall_const, gt_iff_lt, ge_iff_le]
  refine ⟨fun h => by omega, fun _ => ?_⟩
  refine Wp_loop (fun j => 0 ≤ j ∧ j ≤ (l.length : Int)) (fun j => ((l.length : Int) - j).toNat) ⟨Int.le_refl _, by omega⟩ ?_
  rintro i ⟨k1, k2⟩
  simp only [L_r11_Sort_2, Wp_some, Wp_gd, Wp_cond, Wp_bd, Wp_bnd, Wp_bindE, Sum.elim_inl, Sum.elim_inr, condO, condA, decide_eq_true_eq, decide_eq_false_iff_not, Bool.or_eq_true, Bool.or_eq_false_iff, Bool.and_eq_true, Bool.and_eq_false_iff, Bool.not_eq_true', Bool.not_eq_false', bne_iff_ne, bne_eq_false_iff_eq, beq_iff_eq, beq_eq_false_iff_ne, true_and, and_true, Int.not_lt, Int.not_le, ne_eq, not_false_eq_true, implies_true, forall_const, gt_iff_lt, ge_iff_le]
  refine ⟨fun hi => ⟨⟨k1, hi⟩, ?_⟩, fun hi => ?_⟩
  · refine (FieldName_W (fNames_ok _ (getD_int (d := default) (R := fun f : S_Field => f.Name ∈ fNames) h.name ⟨k1, hi⟩))).mono fun r hr => ?_
    rw [w64 (x := i + 1) (by omega)]
    exact ⟨fun q => by rw [hr] at q; exact Bool.noConfusion q, fun _ => by omega⟩
  · refine Wp_loop (fun j => 0 ≤ j.1 ∧ j.1 ≤ (l.length : Int) ∧ j.2 = l.take j.1.toNat) (fun j => ((l.length : Int) - j.1).toNat) ⟨Int.le_refl _, by show (0 : Int) ≤ _; omega, by simp⟩ ?_
    rintro ⟨i, out⟩ ⟨q1, q2, q3⟩
    dsimp only at q1 q2 q3
    subst q3
    have hl1 : (l.take i.toNat).length = i.toNat := by simp; omega
    simp only [L_r11_Sort_4, Wp_some, Wp_gd, Wp_cond, Wp_bd, Wp_bnd, Wp_bindE, Sum.elim_inl, Sum.elim_inr, condO, condA, decide_eq_true_eq, decide_eq_false_iff_not, Bool.or_eq_true, Bool.or_eq_false_iff, Bool.and_eq_true, Bool.and_eq_false_iff, Bool.not_eq_true', Bool.not_eq_false', bne_iff_ne, bne_eq_false_iff_eq, beq_iff_eq, beq_eq_false_iff_ne, true_and, and_true, Int.not_lt, Int.not_le, ne_eq, not_false_eq_true, implies_true, forall_const, gt_iff_lt, ge_iff_le, hl1]
    refine ⟨fun hi => ⟨⟨q1, hi⟩, by omega, ?_⟩, fun hi => by rw [List.take_of_length_le (by omega)]⟩
    have ht : l.take i.toNat ++ [l.getD i.toNat default] = l.take (i + 1).toNat := (take_getD ⟨q1, hi⟩).symm
    rw [ht, Int.toNat_of_nonneg q1]
    have hl2 : ((l.take (i + 1).toNat).length : Int) = i + 1 := by simp; omega
    have hg : ∀ k : Int, 0 ≤ k → k ≤ i → (l.take (i + 1).toNat).getD k.toNat default = l.getD k.toNat default := by
      intro k h1 h2
      simp only [List.getD, List.getElem?_take]
      rw [if_pos (by omega)]
    refine Wp_loop (fun j => j = (i, l.take (i + 1).toNat)) (fun j => 0) rfl ?_
    rintro j rfl
    simp only [L_r11_Sort_6, Wp_some, Wp_gd, Wp_cond, Wp_bd, Wp_bnd, Wp_bindE, Sum.elim_inl, Sum.elim_inr, condO, condA, decide_eq_true_eq, decide_eq_false_iff_not, Bool.or_eq_true, Bool.or_eq_false_iff, Bool.and_eq_true, Bool.and_eq_false_iff, Bool.not_eq_true', Bool.not_eq_false', bne_iff_ne, bne_eq_false_iff_eq, beq_iff_eq, beq_eq_false_iff_ne, true_and, and_true, Int.not_lt, Int.not_le, ne_eq, not_false_eq_true, implies_true, forall_const, gt_iff_lt, ge_iff_le, hl2]
    rw [w64 (x := i - 1) (by omega)]
    have hset : (l.take (i + 1).toNat).set i.toNat (l.getD i.toNat default) = l.take (i + 1).toNat := by
      refine List.ext_getElem (by simp) fun n h1 h2 => ?_
      rw [List.getElem_set]
      split
      · rename_i e
        subst e
        rw [getD_get (by omega)]
        simp
      · rfl
    refine ⟨fun h0 => by omega, fun h0 => ⟨q1, hi⟩, fun h0 => ?_, fun _ => ?_⟩
    · exfalso
      have ha := h.adj (i := i) (by omega) hi
      rw [hg (i - 1) (by omega) (by omega)] at h0
      have := h0.2.1
      unfold sLt at ha
      rw [ha] at this
      cases this
    · rw [hset, w64 (x := i + 1) (by omega), hl2]
      refine ⟨by omega, fun h0 => by omega, fun h0 => by omega, fun h0 => ?_, fun _ => ⟨⟨by omega, by omega, rfl⟩, by omega⟩⟩
      exfalso
      have ha := h.adj (i := i) (by omega) hi
      rw [hg (i - 1) (by omega) (by omega)] at h0
      have := h0.2
      unfold sLt at ha
      rw [this, bl_irrefl] at ha
      cases ha

theorem SameF_W (l : List S_Field) (hl : l.length ≤ 1000000) : Wp (F_r11_Same l l) fun r => r = true := by
  simp only [F_r11_Same, Wp_some, Wp_gd, Wp_cond, Wp_bd, Wp_bnd, Wp_bindE, Sum.elim_inl, Sum.elim_inr, condO, condA, decide_eq_true_eq, decide_eq_false_iff_not, Bool.or_eq_true, Bool.or_eq_false_iff, Bool.and_eq_true, Bool.and_eq_false_iff, Bool.not_eq_true', Bool.not_eq_false', bne_iff_ne, bne_eq_false_iff_eq, beq_iff_eq, beq_eq_false_iff_ne, true_and, and_true, Int.not_lt, Int.not_le, ne_eq, not_false_eq_true, implies_true, forall_const, gt_iff_lt, ge_iff_le]
  refine ⟨fun h => absurd trivial h, ?_⟩
  refine Wp_loop (fun j => 0 ≤ j ∧ j ≤ (l.length : Int)) (fun j => ((l.length : Int) - j).toNat) ⟨Int.le_refl _, by omega⟩ ?_
  rintro i ⟨k1, k2⟩
  simp only [L_r11_Same_2, Wp_some, Wp_gd, Wp_cond, Wp_bd, Wp_bnd, Wp_bindE, Sum.elim_inl, Sum.elim_inr, condO, condA, decide_eq_true_eq, decide_eq_false_iff_not, Bool.or_eq_true, Bool.or_eq_false_iff, Bool.and_eq_true, Bool.and_eq_false_iff, Bool.not_eq_true', Bool.not_eq_false', bne_iff_ne, bne_eq_false_iff_eq, beq_iff_eq, beq_eq_false_iff_ne, true_and, and_true, Int.not_lt, Int.not_le, ne_eq, not_false_eq_true, implies_true, forall_const, gt_iff_lt, ge_iff_le]
  intro hi
  rw [w64 (x := i + 1) (by omega)]
  refine ⟨⟨k1, hi⟩, ⟨k1, hi⟩, fun q => ?_, by omega⟩
  rcases q with q | q | q
  · exact absurd trivial q
  · exact absurd trivial q
  · cases q
end Go.Abs
