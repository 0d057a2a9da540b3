/- DERIVED. Plain laws, part 1: what is drawn: words, values, texts, fields. -/
import Derived.Test.YtlhiaclmbegaiaaGreatP0
set_option linter.unusedVariables false
set_option linter.unusedSimpArgs false
namespace Go.Abs
open Go

theorem New_W {l : List Int} (h : ∀ x ∈ l, 0 ≤ x ∧ x < 256) (hl : l.length ≤ 9223372036854775807) : Wp (F_draw_New l 500) Cw := by
  simp only [F_draw_New, Wp_some, Wp_gd, Wp_cond, Wp_bd, Wp_bnd, Wp_bindE, Sum.elim_inl, Sum.elim_inr, condO, condA, decide_eq_true_eq, decide_eq_false_iff_not, Bool.or_eq_true, Bool.or_eq_false_iff, Bool.and_eq_true, Bool.and_eq_false_iff, Bool.not_eq_true', Bool.not_eq_false', bne_iff_ne, bne_eq_false_iff_eq, beq_iff_eq, beq_eq_false_iff_ne, true_and, and_true, Int.not_lt, Int.not_le, ne_eq, not_false_eq_true, implies_true, forall_const, gt_iff_lt, ge_iff_le]
  refine ⟨⟨Int.le_refl _, by split <;> omega, by split <;> omega⟩, Int.le_refl _, ?_, by show (0 : Int) ≤ _; omega, fun x hx => h x (List.mem_of_mem_take (List.mem_of_mem_drop hx))⟩
  show (sub l 0 _).length ≤ 500
  simp only [sub, List.length_drop, List.length_take]
  split <;> omega

theorem Word_W {c : S_draw_Codes} (hc : Cw c) : Wp (F_draw_Codes_Word c) fun r => r.1.size ≤ 8 ∧ Cw r.2 := by
  simp only [F_draw_Codes_Word, Wp_some, Wp_gd, Wp_cond, Wp_bd, Wp_bnd, Wp_bindE, Sum.elim_inl, Sum.elim_inr, condO, condA, decide_eq_true_eq, decide_eq_false_iff_not, Bool.or_eq_true, Bool.or_eq_false_iff, Bool.and_eq_true, Bool.and_eq_false_iff, Bool.not_eq_true', Bool.not_eq_false', bne_iff_ne, bne_eq_false_iff_eq, beq_iff_eq, beq_eq_false_iff_ne, true_and, and_true, Int.not_lt, Int.not_le, ne_eq, not_false_eq_true, implies_true, forall_const, gt_iff_lt, ge_iff_le]
  refine (Next_W hc ⟨by decide, by decide⟩).mono fun r ⟨h1, h2⟩ => ⟨h1, ?_, h2⟩
  exact getD_int (R := fun x => x.size ≤ 8) (by decide) h1

theorem Value_W {c : S_draw_Codes} (hc : Cw c) : Wp (F_draw_Codes_Value c) fun r => r.1.size ≤ 20 ∧ Cw r.2 := by
  simp only [F_draw_Codes_Value, Wp_some, Wp_gd, Wp_cond, Wp_bd, Wp_bnd, Wp_bindE, Sum.elim_inl, Sum.elim_inr, condO, condA, decide_eq_true_eq, decide_eq_false_iff_not, Bool.or_eq_true, Bool.or_eq_false_iff, Bool.and_eq_true, Bool.and_eq_false_iff, Bool.not_eq_true', Bool.not_eq_false', bne_iff_ne, bne_eq_false_iff_eq, beq_iff_eq, beq_eq_false_iff_ne, true_and, and_true, Int.not_lt, Int.not_le, ne_eq, not_false_eq_true, implies_true, forall_const, gt_iff_lt, ge_iff_le]
  refine (Next_W hc ⟨by decide, by decide⟩).mono fun r ⟨h1, h2⟩ => ⟨h1, ?_, h2⟩
  exact getD_int (R := fun x => x.size ≤ 20) (by decide) h1

theorem Text_W {c : S_draw_Codes} (hc : Cw c) : Wp (F_draw_Codes_Text c) fun r => r.1.size ≤ 60 ∧ Cw r.2 := by
  simp only [F_draw_Codes_Text, Wp_some, Wp_gd, Wp_cond, Wp_bd, Wp_bnd, Wp_bindE, Sum.elim_inl, Sum.elim_inr, condO, condA, decide_eq_true_eq, decide_eq_false_iff_not, Bool.or_eq_true, Bool.or_eq_false_iff, Bool.and_eq_true, Bool.and_eq_false_iff, Bool.not_eq_true', Bool.not_eq_false', bne_iff_ne, bne_eq_false_iff_eq, beq_iff_eq, beq_eq_false_iff_ne, true_and, and_true, Int.not_lt, Int.not_le, ne_eq, not_false_eq_true, implies_true, forall_const, gt_iff_lt, ge_iff_le]
  refine (Word_W hc).mono fun r1 ⟨h1, h2⟩ => ?_
  refine (Next_W h2 ⟨by decide, by decide⟩).mono fun r2 ⟨h3, h4⟩ => ?_
  refine Wp_loop (fun j => 0 ≤ j.2.1 ∧ j.2.1 ≤ 3 ∧ (j.1.size : Int) ≤ 8 + (3 - j.2.1) * 11 ∧ Cw j.2.2) (fun j => j.2.1.toNat) ⟨h3.1, by show r2.1 ≤ 3; omega, by show (r1.1.size : Int) ≤ 8 + (3 - r2.1) * 11; omega, h4⟩ ?_
  rintro ⟨s, k, c⟩ ⟨k1, k2, k3, k4⟩
  dsimp only at k1 k2 k3 k4
  simp only [L_draw_Codes_Text_2, Wp_some, Wp_gd, Wp_cond, Wp_bd, Wp_bnd, Wp_bindE, Sum.elim_inl, Sum.elim_inr, condO, condA, decide_eq_true_eq, decide_eq_false_iff_not, Bool.or_eq_true, Bool.or_eq_false_iff, Bool.and_eq_true, Bool.and_eq_false_iff, Bool.not_eq_true', Bool.not_eq_false', bne_iff_ne, bne_eq_false_iff_eq, beq_iff_eq, beq_eq_false_iff_ne, true_and, and_true, Int.not_lt, Int.not_le, ne_eq, not_false_eq_true, implies_true, forall_const, gt_iff_lt, ge_iff_le]
  refine ⟨fun hk => ?_, fun hk => ⟨by omega, k4⟩⟩
  refine (Next_W k4 ⟨by decide, by decide⟩).mono fun r3 ⟨h5, h6⟩ => ?_
  refine ⟨h5, ?_⟩
  refine (Word_W h6).mono fun r5 ⟨h7, h8⟩ => ?_
  have hs := getD_int (d := (default : ByteArray)) (R := fun x => x.size ≤ 2) (l := ([(ByteArray.mk #[32]), (ByteArray.mk #[32]), (ByteArray.mk #[44, 32]), (ByteArray.mk #[61]), (ByteArray.mk #[])] : List ByteArray)) (by decide) h5
  generalize List.getD _ _ _ = x at *
  simp only [ByteArray.size_append]
  rw [w64 (by omega)]
  refine ⟨by omega, by omega, ⟨by omega, by omega, by omega, h8⟩, by omega⟩

theorem Weight_W {c : S_draw_Codes} (hc : Cw c) : Wp (F_draw_Codes_Weight c) fun r => (1 ≤ r.1 ∧ r.1 ≤ 5040 ∧ Int.tmod 5040 r.1 = 0) ∧ Cw r.2 := by
  simp only [F_draw_Codes_Weight, Wp_some, Wp_gd, Wp_cond, Wp_bd, Wp_bnd, Wp_bindE, Sum.elim_inl, Sum.elim_inr, condO, condA, decide_eq_true_eq, decide_eq_false_iff_not, Bool.or_eq_true, Bool.or_eq_false_iff, Bool.and_eq_true, Bool.and_eq_false_iff, Bool.not_eq_true', Bool.not_eq_false', bne_iff_ne, bne_eq_false_iff_eq, beq_iff_eq, beq_eq_false_iff_ne, true_and, and_true, Int.not_lt, Int.not_le, ne_eq, not_false_eq_true, implies_true, forall_const, gt_iff_lt, ge_iff_le]
  refine (Next_W hc ⟨by decide, by decide⟩).mono fun r ⟨h1, h2⟩ => ⟨h1, ?_, h2⟩
  exact getD_int (R := fun x => 1 ≤ x ∧ x ≤ 5040 ∧ Int.tmod 5040 x = 0) (by decide) h1

theorem Time_W {c : S_draw_Codes} (hc : Cw c) : Wp (F_draw_Codes_Time c) fun r => (0 ≤ r.1 ∧ r.1 ≤ 253402300799999) ∧ Cw r.2 := by
  simp only [F_draw_Codes_Time, Wp_some, Wp_gd, Wp_cond, Wp_bd, Wp_bnd, Wp_bindE, Sum.elim_inl, Sum.elim_inr, condO, condA, decide_eq_true_eq, decide_eq_false_iff_not, Bool.or_eq_true, Bool.or_eq_false_iff, Bool.and_eq_true, Bool.and_eq_false_iff, Bool.not_eq_true', Bool.not_eq_false', bne_iff_ne, bne_eq_false_iff_eq, beq_iff_eq, beq_eq_false_iff_ne, true_and, and_true, Int.not_lt, Int.not_le, ne_eq, not_false_eq_true, implies_true, forall_const, gt_iff_lt, ge_iff_le]
  refine (Next_W hc ⟨by decide, by decide⟩).mono fun r ⟨h1, h2⟩ => ⟨fun _ => ?_, fun _ => ⟨fun _ => ?_, fun _ => ?_⟩⟩
  · refine (Next_W h2 ⟨by decide, by decide⟩).mono fun r ⟨h3, h4⟩ => ⟨?_, h4⟩
    rw [w64 (by omega)]
    omega
  · refine (Next_W h2 ⟨by decide, by decide⟩).mono fun r ⟨h3, h4⟩ => ⟨?_, h4⟩
    rw [w64 (by rw [w64 (by omega)]; omega), w64 (by omega)]
    omega
  · refine (Next_W h2 ⟨by decide, by decide⟩).mono fun r ⟨h3, h4⟩ => ⟨?_, h4⟩
    rw [w64 (by omega)]
    omega

/-! ### Fields -/
def fNames : List ByteArray := [(ByteArray.mk #[99, 111, 100, 101]), (ByteArray.mk #[108, 101, 118, 101, 108]), (ByteArray.mk #[109, 115]), (ByteArray.mk #[117, 115, 101, 114])]
def FOk (l : List S_Field) : Prop := (l.map (·.Name)).Sublist fNames ∧ ∀ f ∈ l, f.Value.size ≤ 20
theorem FOk.len {l : List S_Field} (h : FOk l) : l.length ≤ 4 := by
  have := h.1.length_le
  simpa [fNames] using this

theorem Fields_W {c : S_draw_Codes} (hc : Cw c) : Wp (F_draw_Codes_Fields c) fun r => FOk r.1 ∧ Cw r.2 := by
  simp only [F_draw_Codes_Fields, Wp_some, Wp_gd, Wp_cond, Wp_bd, Wp_bnd, Wp_bindE, Sum.elim_inl, Sum.elim_inr, condO, condA, decide_eq_true_eq, decide_eq_false_iff_not, Bool.or_eq_true, Bool.or_eq_false_iff, Bool.and_eq_true, Bool.and_eq_false_iff, Bool.not_eq_true', Bool.not_eq_false', bne_iff_ne, bne_eq_false_iff_eq, beq_iff_eq, beq_eq_false_iff_ne, true_and, and_true, Int.not_lt, Int.not_le, ne_eq, not_false_eq_true, implies_true, forall_const, gt_iff_lt, ge_iff_le]
  refine Wp_loop (fun j => 0 ≤ j.1 ∧ j.1 ≤ 4 ∧ (j.2.2.map (·.Name)).Sublist (fNames.take j.1.toNat) ∧ (∀ f ∈ j.2.2, f.Value.size ≤ 20) ∧ Cw j.2.1) (fun j => (4 - j.1).toNat) ⟨Int.le_refl _, by show (0 : Int) ≤ 4; decide, by simp, by simp, hc⟩ ?_
  rintro ⟨k, c, l⟩ ⟨k1, k2, k3, k4, k5⟩
  dsimp only at k1 k2 k3 k4 k5
  simp only [L_draw_Codes_Fields_2, Wp_some, Wp_gd, Wp_cond, Wp_bd, Wp_bnd, Wp_bindE, Sum.elim_inl, Sum.elim_inr, condO, condA, decide_eq_true_eq, decide_eq_false_iff_not, Bool.or_eq_true, Bool.or_eq_false_iff, Bool.and_eq_true, Bool.and_eq_false_iff, Bool.not_eq_true', Bool.not_eq_false', bne_iff_ne, bne_eq_false_iff_eq, beq_iff_eq, beq_eq_false_iff_ne, true_and, and_true, Int.not_lt, Int.not_le, ne_eq, not_false_eq_true, implies_true, forall_const, gt_iff_lt, ge_iff_le]
  have hlen : ∀ l : List S_Field, (l.map (·.Name)).Sublist (fNames.take k.toNat) → l.length ≤ 4 := fun l h => by
    have := h.length_le
    simp [fNames] at this
    omega
  refine ⟨fun hk => ?_, fun hk => ⟨⟨?_, k4⟩, k5⟩⟩
  · have hk : k < 4 := hk
    have hkn : k.toNat < fNames.length := by show k.toNat < 4; omega
    refine (Next_W k5 ⟨by decide, by decide⟩).mono fun r2 ⟨h3, h4⟩ => ?_
    have hw : IntKind.wrap .i64 (k + 1) = k + 1 := w64 (by omega)
    have ht : (k + 1).toNat = k.toNat + 1 := by omega
    refine ⟨fun _ => ?_, fun _ => ?_⟩
    · refine ⟨⟨k1, hk⟩, (Value_W h4).mono fun r4 ⟨h5, h6⟩ => ?_⟩
      have := hlen l k3
      rw [hw]
      refine ⟨by omega, ⟨by omega, by omega, ?_, ?_, h6⟩, by omega⟩
      · show List.Sublist (List.map _ (_ ++ [_])) (List.take (k + 1).toNat _)
        rw [ht, List.map_append, List.take_add_one]
        refine k3.append ?_
        rw [List.getElem?_eq_getElem hkn]
        show List.Sublist [List.getD fNames _ _] [_]
        simp [List.getD, hkn]
      · intro f hf
        rcases List.mem_append.1 hf with hf | hf
        · exact k4 f hf
        · simp at hf
          subst hf
          exact h5
    · rw [hw]
      refine ⟨⟨by omega, by omega, ?_, k4, h4⟩, by omega⟩
      exact k3.trans (List.take_sublist_take_left (by omega))
  · exact k3.trans (List.take_sublist _ _)

/-! ### Items -/
def LOk : Int → Int → List S_Line → Prop
  | a, b, [] => a = b
  | a, b, l :: r => l.Offset = a ∧ (1 ≤ l.Length ∧ l.Length ≤ 62) ∧ l.Text.size ≤ 60 ∧ LOk (a + l.Length) b r
theorem LOk.le : ∀ {l : List S_Line} {a b : Int}, LOk a b l → a + l.length ≤ b ∧ b ≤ a + 62 * l.length
  | [], a, b, h => by
    have : a = b := h
    simp
    omega
  | x :: r, a, b, ⟨_, h, _, k⟩ => by
    have := LOk.le k
    simp only [List.length_cons]
    omega
theorem LOk.snoc : ∀ {l : List S_Line} {a b : Int} {x : S_Line}, LOk a b l → x.Offset = b → (1 ≤ x.Length ∧ x.Length ≤ 62) → x.Text.size ≤ 60 → LOk a (b + x.Length) (l ++ [x])
  | [], a, b, x, h, h1, h2, h3 => by
    have : a = b := h
    subst this
    exact ⟨h1, h2, h3, rfl⟩
  | y :: r, a, b, x, ⟨k1, k2, k3, k4⟩, h1, h2, h3 => ⟨k1, k2, k3, k4.snoc h1 h2 h3⟩

structure EvOk (e : S_Event) : Prop where
  host : 0 ≤ e.Host ∧ e.Host ≤ 999
  file : 0 ≤ e.File ∧ e.File ≤ 1000
  frm : 0 ≤ e.From
  to : e.To ≤ 60000
  time : 0 ≤ e.Time ∧ e.Time ≤ 253402300799999
  weight : 1 ≤ e.Weight ∧ e.Weight ≤ 5040 ∧ Int.tmod 5040 e.Weight = 0
  lines : LOk e.From e.To e.Lines
  cnt : 1 ≤ e.Lines.length ∧ e.Lines.length ≤ 3
  trace : e.Trace.size ≤ 32
  stream : e.Stream.size ≤ 32
  fields : FOk e.Fields

/-- An item that begins at a place of a file. -/
structure ItOk (h f : Int) (x : S_Item) : Prop where
  ev : (x.Rule.toList == (ByteArray.mk #[]).toList) = true → EvOk x.Event
  host : x.Event.Host = h
  file : x.Event.File = f
  to : x.Event.From < x.Event.To ∧ x.Event.To ≤ x.Event.From + 186

theorem Item_W {c : S_draw_Codes} {h f a : Int} (hc : Cw c) (hh : 0 ≤ h ∧ h ≤ 999) (hf : 0 ≤ f ∧ f ≤ 1000) (ha : 0 ≤ a ∧ a ≤ 50000) :
    Wp (F_draw_Codes_Item c h f a) fun r => ItOk h f r.1 ∧ r.1.Event.From = a ∧ Cw r.2 := by
  simp only [F_draw_Codes_Item, Wp_some, Wp_gd, Wp_cond, Wp_bd, Wp_bnd, Wp_bindE, Sum.elim_inl, Sum.elim_inr, condO, condA, decide_eq_true_eq, decide_eq_false_iff_not, Bool.or_eq_true, Bool.or_eq_false_iff, Bool.and_eq_true, Bool.and_eq_false_iff, Bool.not_eq_true', Bool.not_eq_false', bne_iff_ne, bne_eq_false_iff_eq, beq_iff_eq, beq_eq_false_iff_ne, true_and, and_true, Int.not_lt, Int.not_le, ne_eq, not_false_eq_true, implies_true, forall_const, gt_iff_lt, ge_iff_le]
  refine (Next_W hc ⟨by decide, by decide⟩).mono fun r3 ⟨h3, h4⟩ => ?_
  have hw : IntKind.wrap .i64 (1 + r3.1) = 1 + r3.1 := w64 (by omega)
  rw [hw]
  refine Wp_loop (fun j => 0 ≤ j.2.1 ∧ (j.2.1 + j.2.2.2.2.length = 1 + r3.1) ∧ LOk a j.1 j.2.2.2.2 ∧ Cw j.2.2.1 ∧ j.2.2.2.1.Host = h ∧ j.2.2.2.1.File = f ∧ j.2.2.2.1.From = a) (fun j => j.2.1.toNat) ⟨by show 0 ≤ 1 + r3.1; omega, by simp, by show a = a; rfl, h4, rfl, rfl, rfl⟩ ?_
  rintro ⟨p, n, c1, e, ls⟩ ⟨k1, k2, k3, k4, k5, k6, k7⟩
  dsimp only at k1 k2 k3 k4 k5 k6 k7
  simp only [L_draw_Codes_Item_2, Wp_some, Wp_gd, Wp_cond, Wp_bd, Wp_bnd, Wp_bindE, Sum.elim_inl, Sum.elim_inr, condO, condA, decide_eq_true_eq, decide_eq_false_iff_not, Bool.or_eq_true, Bool.or_eq_false_iff, Bool.and_eq_true, Bool.and_eq_false_iff, Bool.not_eq_true', Bool.not_eq_false', bne_iff_ne, bne_eq_false_iff_eq, beq_iff_eq, beq_eq_false_iff_ne, true_and, and_true, Int.not_lt, Int.not_le, ne_eq, not_false_eq_true, implies_true, forall_const, gt_iff_lt, ge_iff_le]
  refine ⟨fun hn => ?_, fun hn => ?_⟩
  · refine (Text_W k4).mono fun r4 ⟨h5, h6⟩ => ?_
    refine (Next_W h6 ⟨by decide, by decide⟩).mono fun r5 ⟨h7, h8⟩ => ?_
    have hl := k3.le
    have hx : IntKind.wrap .i64 (IntKind.wrap .i64 ((r4.1.size : Int) + 1) + r5.1) = (r4.1.size : Int) + 1 + r5.1 := by
      rw [w64 (x := (r4.1.size : Int) + 1) (by omega), w64 (by omega)]
    rw [hx, w64 (x := n - 1) (by omega), w64 (x := p + _) (by omega)]
    refine ⟨by omega, ⟨by omega, ?_, ?_, h8, k5, k6, k7⟩, by omega⟩
    · simp only [List.length_append, List.length_cons, List.length_nil]
      omega
    · exact k3.snoc (x := ⟨p, (r4.1.size : Int) + 1 + r5.1, r4.1⟩) rfl (by show 1 ≤ (r4.1.size : Int) + 1 + r5.1 ∧ (r4.1.size : Int) + 1 + r5.1 ≤ 62; omega) h5
  · have hn0 : n = 0 := by omega
    have hl := k3.le
    refine (Next_W k4 ⟨by decide, by decide⟩).mono fun r9 ⟨h9, h10⟩ => ⟨fun _ => ?_, fun _ => ?_⟩
    · refine Wp_loop (fun j => 0 ≤ j.1 ∧ j.1 ≤ (ls.length : Int) ∧ j.2.length = ls.length) (fun j => ((ls.length : Int) - j.1).toNat) ⟨Int.le_refl _, by show (0 : Int) ≤ _; omega, rfl⟩ ?_
      rintro ⟨i, l2⟩ ⟨q1, q2, q3⟩
      dsimp only at q1 q2 q3
      simp only [L_draw_Codes_Item_4, Wp_some, Wp_gd, Wp_cond, Wp_bd, Wp_bnd, Wp_bindE, Sum.elim_inl, Sum.elim_inr, condO, condA, decide_eq_true_eq, decide_eq_false_iff_not, Bool.or_eq_true, Bool.or_eq_false_iff, Bool.and_eq_true, Bool.and_eq_false_iff, Bool.not_eq_true', Bool.not_eq_false', bne_iff_ne, bne_eq_false_iff_eq, beq_iff_eq, beq_eq_false_iff_ne, true_and, and_true, Int.not_lt, Int.not_le, ne_eq, not_false_eq_true, implies_true, forall_const, gt_iff_lt, ge_iff_le]
      refine ⟨fun hi => ⟨⟨q1, hi⟩, ⟨?_, ?_, ?_⟩, ?_⟩, fun hi => ?_⟩
      · rw [w64 (x := i + 1) (by omega)]; omega
      · rw [w64 (x := i + 1) (by omega)]; omega
      · simpa using q3
      · rw [w64 (x := i + 1) (by omega)]; omega
      · refine (Next_W h10 ⟨by decide, by decide⟩).mono fun r12 ⟨h11, h12⟩ => ⟨h11, ⟨?_, k5, k6, ?_⟩, k7, h12⟩
        · intro he
          exfalso
          have := getD_int (d := (default : ByteArray)) (R := fun x => (x.toList == (ByteArray.mk #[]).toList) = false) (l := ([(ByteArray.mk #[115, 97, 109, 112, 108, 101]), (ByteArray.mk #[100, 114, 111, 112]), (ByteArray.mk #[116, 111, 111, 45, 108, 111, 110, 103])] : List ByteArray)) (by decide +kernel) h11
          exact Bool.noConfusion (he.symm.trans this)
        · show e.From < p ∧ p ≤ e.From + 186
          omega
    · refine (Time_W h10).mono fun r15 ⟨h11, h12⟩ => ?_
      refine (Weight_W h12).mono fun r16 ⟨h13, h14⟩ => ?_
      refine (Next_W h14 ⟨by decide, by decide⟩).mono fun r17 ⟨h15, h16⟩ => ⟨h15, ?_⟩
      refine (Next_W h16 ⟨by decide, by decide⟩).mono fun r19 ⟨h17, h18⟩ => ⟨h17, ?_⟩
      refine (Fields_W h18).mono fun r22 ⟨h19, h20⟩ => ⟨⟨fun _ => ⟨?_, ?_, ?_, ?_, h11, h13, ?_, ?_, ?_, ?_, h19⟩, k5, k6, ?_⟩, k7, h20⟩
      · show 0 ≤ e.Host ∧ e.Host ≤ 999
        omega
      · show 0 ≤ e.File ∧ e.File ≤ 1000
        omega
      · show 0 ≤ e.From
        omega
      · show p ≤ 60000
        omega
      · show LOk e.From p ls
        rw [k7]
        exact k3
      · show 1 ≤ ls.length ∧ ls.length ≤ 3
        omega
      · exact getD_int (R := fun x : ByteArray => x.size ≤ 32) (by decide) h15
      · exact getD_int (R := fun x : ByteArray => x.size ≤ 32) (by decide) h17
      · show e.From < p ∧ p ≤ e.From + 186
        omega
end Go.Abs
