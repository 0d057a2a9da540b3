/- DERIVED. Plain laws, part 2: files and events that are drawn. -/
import Derived.Test.YtlhiaclmbegaiaaGreatP1
set_option linter.unusedVariables false
set_option linter.unusedSimpArgs false
namespace Go.Abs
open Go

theorem sub_take {α : Type} {l : List α} {j : Int} : sub l 0 j = l.take j.toNat := by simp [sub]
theorem sub_drop {α : Type} {l : List α} {j : Int} : sub l j (l.length : Int) = l.drop j.toNat := by simp [sub]

def FlOk (h f : Int) (m : Int) (l : List S_Item) : Prop := (∀ x ∈ l, ItOk h f x) ∧ l.Pairwise (fun x y => x.Event.From < y.Event.From) ∧ (l.length : Int) ≤ m

theorem Files_W {c : S_draw_Codes} {h m : Int} (hc : Cw c) (hh : 0 ≤ h ∧ h ≤ 999) (hm : 0 ≤ m ∧ m ≤ 200) :
    Wp (F_draw_Codes_Files c h m) fun r => (r.1.length ≤ 3 ∧ ∀ i : Int, 0 ≤ i ∧ i < r.1.length → FlOk h (5 + i) m (r.1.getD i.toNat default)) ∧ Cw r.2 := by
  simp only [F_draw_Codes_Files, Wp_some, Wp_gd, Wp_cond, Wp_bd, Wp_bnd, Wp_bindE, Sum.elim_inl, Sum.elim_inr, condO, condA, decide_eq_true_eq, decide_eq_false_iff_not, Bool.or_eq_true, Bool.or_eq_false_iff, Bool.and_eq_true, Bool.and_eq_false_iff, Bool.not_eq_true', Bool.not_eq_false', bne_iff_ne, bne_eq_false_iff_eq, beq_iff_eq, beq_eq_false_iff_ne, true_and, and_true, Int.not_lt, Int.not_le, ne_eq, not_false_eq_true, implies_true, forall_const, gt_iff_lt, ge_iff_le]
  refine Wp_loop (fun j => 0 ≤ j.1 ∧ j.1 ≤ 3 ∧ (j.2.2.length : Int) = j.1 ∧ (∀ i : Int, 0 ≤ i ∧ i < j.2.2.length → FlOk h (5 + i) m (j.2.2.getD i.toNat default)) ∧ Cw j.2.1) (fun j => (3 - j.1).toNat)
    ⟨Int.le_refl _, by show (0 : Int) ≤ 3; decide, rfl, fun i hi => absurd hi (by simp only [List.length_nil]; omega), hc⟩ ?_
  rintro ⟨f, c, out⟩ ⟨k1, k2, k3, k4, k5⟩
  dsimp only at k1 k2 k3 k4 k5
  simp only [L_draw_Codes_Files_2, Wp_some, Wp_gd, Wp_cond, Wp_bd, Wp_bnd, Wp_bindE, Sum.elim_inl, Sum.elim_inr, condO, condA, decide_eq_true_eq, decide_eq_false_iff_not, Bool.or_eq_true, Bool.or_eq_false_iff, Bool.and_eq_true, Bool.and_eq_false_iff, Bool.not_eq_true', Bool.not_eq_false', bne_iff_ne, bne_eq_false_iff_eq, beq_iff_eq, beq_eq_false_iff_ne, true_and, and_true, Int.not_lt, Int.not_le, ne_eq, not_false_eq_true, implies_true, forall_const, gt_iff_lt, ge_iff_le]
  refine (Next_W k5 ⟨by decide, by decide⟩).mono fun r1 ⟨h1, h2⟩ => ⟨fun hf => ?_, fun hf => ⟨⟨by omega, k4⟩, h2⟩⟩
  rw [w64 (x := m + 1) (by omega)]
  refine (Next_W h2 ⟨by omega, by omega⟩).mono fun r2 ⟨h3, h4⟩ => ?_
  refine Wp_loop (fun j => 0 ≤ j.2.1 ∧ j.2.1 + j.2.2.2.length ≤ m ∧ (∀ x ∈ j.2.2.2, ItOk h (5 + f) x ∧ x.Event.From < j.1) ∧ j.2.2.2.Pairwise (fun x y => x.Event.From < y.Event.From) ∧ (0 ≤ j.1 ∧ j.1 ≤ 186 * (j.2.2.2.length : Int)) ∧ Cw j.2.2.1) (fun j => j.2.1.toNat)
    ⟨h3.1, by show r2.1 + (0 : Int) ≤ m; omega, by simp, by simp, by show (0 : Int) ≤ 0 ∧ (0 : Int) ≤ 186 * ((0 : Nat) : Int); omega, h4⟩ ?_
  rintro ⟨a, n, c, l⟩ ⟨q1, q2, q3, q4, q5, q6⟩
  dsimp only at q1 q2 q3 q4 q5 q6
  simp only [L_draw_Codes_Files_4, Wp_some, Wp_gd, Wp_cond, Wp_bd, Wp_bnd, Wp_bindE, Sum.elim_inl, Sum.elim_inr, condO, condA, decide_eq_true_eq, decide_eq_false_iff_not, Bool.or_eq_true, Bool.or_eq_false_iff, Bool.and_eq_true, Bool.and_eq_false_iff, Bool.not_eq_true', Bool.not_eq_false', bne_iff_ne, bne_eq_false_iff_eq, beq_iff_eq, beq_eq_false_iff_ne, true_and, and_true, Int.not_lt, Int.not_le, ne_eq, not_false_eq_true, implies_true, forall_const, gt_iff_lt, ge_iff_le]
  refine ⟨fun hn => ?_, fun hn => ?_⟩
  · rw [w64 (x := 5 + f) (by omega)]
    refine (Item_W q6 hh (f := 5 + f) (by omega) (a := a) (by omega)).mono fun r3 ⟨h5, h6, h7⟩ => ?_
    have ht := h5.to
    rw [h6] at ht
    rw [w64 (x := n - 1) (by omega)]
    refine ⟨by omega, ⟨by omega, by simp only [List.length_append, List.length_cons, List.length_nil]; omega, ?_, ?_, ?_, h7⟩, by omega⟩
    · intro x hx
      rcases List.mem_append.1 hx with hx | hx
      · have := q3 x hx
        exact ⟨this.1, by have := this.2; show x.Event.From < r3.1.Event.To; omega⟩
      · simp at hx
        subst hx
        exact ⟨h5, h5.to.1⟩
    · refine List.pairwise_append.2 ⟨q4, by simp, ?_⟩
      intro x hx y hy
      simp at hy
      subst hy
      rw [h6]
      exact (q3 x hx).2
    · simp only [List.length_append, List.length_cons, List.length_nil]
      omega
  · rw [w64 (x := f + 1) (by omega)]
    refine ⟨by omega, ⟨by omega, by omega, by simp only [List.length_append, List.length_cons, List.length_nil]; omega, ?_, q6⟩, by omega⟩
    intro i hi
    show FlOk h (5 + i) m (List.getD (out ++ [l]) _ _)
    by_cases hl : i < (out.length : Int)
    · have := k4 i ⟨hi.1, hl⟩
      have e : (out ++ [l]).getD i.toNat default = out.getD i.toNat default := by
        simp only [List.getD]
        rw [List.getElem?_append_left (by omega)]
      rw [e]
      exact this
    · have hi2 : i = out.length := by
        have := hi.2
        simp only [List.length_append, List.length_cons, List.length_nil] at this
        omega
      subst hi2
      have e : (out ++ [l]).getD (out.length : Int).toNat default = l := by simp [List.getD]
      rw [e, k3]
      exact ⟨fun x hx => (q3 x hx).1, q4, by omega⟩

/-! ### The order of events -/
def evLt (a b : S_Event) : Prop := a.Time < b.Time ∨ (a.Time = b.Time ∧ (a.Host < b.Host ∨ (a.Host = b.Host ∧ (a.File < b.File ∨ (a.File = b.File ∧ a.From < b.From)))))
instance (a b : S_Event) : Decidable (evLt a b) := by unfold evLt; infer_instance
def kLt (a b : S_Event) : Prop := a.Host < b.Host ∨ (a.Host = b.Host ∧ (a.File < b.File ∨ (a.File = b.File ∧ a.From < b.From)))
theorem evLt.trans {a b c : S_Event} (h : evLt a b) (k : evLt b c) : evLt a c := by
  unfold evLt at *
  omega
theorem evLt.of {a b : S_Event} (h : ¬ evLt a b) (k : kLt b a) : evLt b a := by
  unfold evLt kLt at *
  omega
theorem Less_eq (a b : S_Event) : F_r12_Less a b = some (decide (evLt a b)) := by
  refine Wp.eq ?_
  simp only [F_r12_Less, Wp_some, Wp_gd, Wp_cond, Wp_bd, Wp_bnd, Wp_bindE, Sum.elim_inl, Sum.elim_inr, condO, condA, decide_eq_true_eq, decide_eq_false_iff_not, Bool.or_eq_true, Bool.or_eq_false_iff, Bool.and_eq_true, Bool.and_eq_false_iff, Bool.not_eq_true', Bool.not_eq_false', bne_iff_ne, bne_eq_false_iff_eq, beq_iff_eq, beq_eq_false_iff_ne, true_and, and_true, Int.not_lt, Int.not_le, ne_eq, not_false_eq_true, implies_true, forall_const, gt_iff_lt, ge_iff_le]
  refine ⟨fun h => ?_, fun h => ⟨fun h2 => ?_, fun h2 => ⟨fun h3 => ?_, fun h3 => ?_⟩⟩⟩
  all_goals exact decide_eq_decide.2 (by unfold evLt; omega)

theorem Insert_W {l : List S_Event} {e : S_Event} (hs : l.Pairwise evLt) (hk : ∀ x ∈ l, kLt x e) (hl : l.length ≤ 1048576) :
    Wp (F_r29_Insert l e) fun r => r.Pairwise evLt ∧ r.length = l.length + 1 ∧ ∀ x ∈ r, x = e ∨ x ∈ l := by
  simp only [F_r29_Insert, Wp_some, Wp_gd, Wp_cond, Wp_bd, Wp_bnd, Wp_bindE, Sum.elim_inl, Sum.elim_inr, condO, condA, decide_eq_true_eq, decide_eq_false_iff_not, Bool.or_eq_true, Bool.or_eq_false_iff, Bool.and_eq_true, Bool.and_eq_false_iff, Bool.not_eq_true', Bool.not_eq_false', bne_iff_ne, bne_eq_false_iff_eq, beq_iff_eq, beq_eq_false_iff_ne, true_and, and_true, Int.not_lt, Int.not_le, ne_eq, not_false_eq_true, implies_true, forall_const, gt_iff_lt, ge_iff_le]
  refine Wp_loop (fun j => 0 ≤ j ∧ j ≤ (l.length : Int) ∧ ∀ x ∈ l.drop j.toNat, evLt e x) (fun j => j.toNat) ⟨by omega, by omega, by simp⟩ ?_
  rintro j ⟨k1, k2, k3⟩
  simp only [L_r29_Insert_2, Wp_some, Wp_gd, Wp_cond, Wp_bd, Wp_bnd, Wp_bindE, Sum.elim_inl, Sum.elim_inr, condO, condA, decide_eq_true_eq, decide_eq_false_iff_not, Bool.or_eq_true, Bool.or_eq_false_iff, Bool.and_eq_true, Bool.and_eq_false_iff, Bool.not_eq_true', Bool.not_eq_false', bne_iff_ne, bne_eq_false_iff_eq, beq_iff_eq, beq_eq_false_iff_ne, true_and, and_true, Int.not_lt, Int.not_le, ne_eq, not_false_eq_true, implies_true, forall_const, gt_iff_lt, ge_iff_le, Less_eq]
  rw [w64 (x := j - 1) (by omega)]
  have fin : (j = 0 ∨ ¬ evLt e (l.getD (j - 1).toNat default)) →
      ((0 ≤ j ∧ j ≤ (l.length : Int)) ∧ (([] : List S_Event).length + (sub l 0 j).length) * 128 ≤ 140737488355328 ∧ (([] ++ sub l 0 j).length + 1) * 128 ≤ 140737488355328 ∧ ((0 ≤ j ∧ j ≤ (l.length : Int)) ∧ (([] ++ sub l 0 j ++ [e]).length + (sub l j (l.length : Int)).length) * 128 ≤ 140737488355328 ∧ (([] ++ sub l 0 j ++ [e] ++ sub l j (l.length : Int)).Pairwise evLt ∧ ([] ++ sub l 0 j ++ [e] ++ sub l j (l.length : Int)).length = l.length + 1 ∧ ∀ x ∈ [] ++ sub l 0 j ++ [e] ++ sub l j (l.length : Int), x = e ∨ x ∈ l))) := by
    intro hj
    rw [sub_take, sub_drop]
    simp only [List.nil_append, List.length_append, List.length_take, List.length_drop, List.length_cons, List.length_nil]
    refine ⟨by omega, by omega, by omega, by omega, by omega, ?_, by omega, ?_⟩
    · rw [List.append_assoc]
      refine List.pairwise_append.2 ⟨hs.sublist (List.take_sublist _ _), ?_, ?_⟩
      · refine List.pairwise_append.2 ⟨by simp, hs.sublist (List.drop_sublist _ _), ?_⟩
        intro a ha b hb
        simp at ha
        subst ha
        exact k3 b hb
      · intro a ha b hb
        have hae : evLt a e := by
          rcases hj with hj | hj
          · subst hj
            simp at ha
          · obtain ⟨i, hi, rfl⟩ := List.mem_take_iff_getElem.1 ha
            have hp : (j - 1).toNat < l.length := by omega
            have hm : l.getD (j - 1).toNat default = l[(j - 1).toNat] := getD_get hp
            rw [hm] at hj
            have h1 := evLt.of hj (hk _ (List.getElem_mem hp))
            by_cases hq : i = (j - 1).toNat
            · subst hq
              exact h1
            · exact (List.pairwise_iff_getElem.1 hs i (j - 1).toNat (by omega) hp (by omega)).trans h1
        rcases List.mem_append.1 hb with hb | hb
        · simp at hb
          subst hb
          exact hae
        · exact hae.trans (k3 b hb)
    · intro x hx
      rcases List.mem_append.1 hx with hx | hx
      · rcases List.mem_append.1 hx with hx | hx
        · exact .inr (List.mem_of_mem_take hx)
        · simp at hx
          exact .inl hx
      · exact .inr (List.mem_of_mem_drop hx)
  refine ⟨fun h => by omega, fun h => ⟨fun h2 => ⟨⟨by omega, by omega, ?_⟩, by omega⟩, fun h2 => ?_⟩, fun h => ⟨fun h2 => absurd h2.2 (by simp), fun h2 => ?_⟩⟩
  · have hp : (j - 1).toNat < l.length := by omega
    have e1 : l.drop (j - 1).toNat = l[(j - 1).toNat] :: l.drop j.toNat := by
      rw [List.drop_eq_getElem_cons hp]
      congr 2
      omega
    rw [e1]
    intro x hx
    rcases List.mem_cons.1 hx with hx | hx
    · subst hx
      have := h2.2
      simp only [List.getD, hp, List.getElem?_eq_getElem, Option.getD_some] at this
      exact this
    · exact k3 x hx
  · have := fin (.inr (h2.resolve_left (by omega)))
    simpa using this
  · have := fin (.inl (by omega))
    simpa using this

/-- The events that are drawn. -/
structure EvsOk (l : List S_Event) (n : Int) : Prop where
  ok : ∀ e ∈ l, EvOk e
  lt : l.Pairwise evLt
  len : (l.length : Int) ≤ n

theorem Events_W {c : S_draw_Codes} {m : Int} (hc : Cw c) (hm : 0 ≤ m ∧ m ≤ 200) :
    Wp (F_draw_Codes_Events c m) fun r => EvsOk r.1 (6 * m) ∧ Cw r.2 := by
  simp only [F_draw_Codes_Events, Wp_some, Wp_gd, Wp_cond, Wp_bd, Wp_bnd, Wp_bindE, Sum.elim_inl, Sum.elim_inr, condO, condA, decide_eq_true_eq, decide_eq_false_iff_not, Bool.or_eq_true, Bool.or_eq_false_iff, Bool.and_eq_true, Bool.and_eq_false_iff, Bool.not_eq_true', Bool.not_eq_false', bne_iff_ne, bne_eq_false_iff_eq, beq_iff_eq, beq_eq_false_iff_ne, true_and, and_true, Int.not_lt, Int.not_le, ne_eq, not_false_eq_true, implies_true, forall_const, gt_iff_lt, ge_iff_le]
  refine Wp_loop (fun j => 1 ≤ j.1 ∧ j.1 ≤ 3 ∧ EvsOk j.2.2 (3 * m * (j.1 - 1)) ∧ (∀ e ∈ j.2.2, e.Host < j.1) ∧ Cw j.2.1) (fun j => (3 - j.1).toNat)
    ⟨Int.le_refl _, by show (1 : Int) ≤ 3; decide, ⟨by simp, by simp, by simp⟩, by simp, hc⟩ ?_
  rintro ⟨h, c, out⟩ ⟨k1, k2, k3, k4, k5⟩
  dsimp only at k1 k2 k3 k4 k5
  simp only [L_draw_Codes_Events_2, Wp_some, Wp_gd, Wp_cond, Wp_bd, Wp_bnd, Wp_bindE, Sum.elim_inl, Sum.elim_inr, condO, condA, decide_eq_true_eq, decide_eq_false_iff_not, Bool.or_eq_true, Bool.or_eq_false_iff, Bool.and_eq_true, Bool.and_eq_false_iff, Bool.not_eq_true', Bool.not_eq_false', bne_iff_ne, bne_eq_false_iff_eq, beq_iff_eq, beq_eq_false_iff_ne, true_and, and_true, Int.not_lt, Int.not_le, ne_eq, not_false_eq_true, implies_true, forall_const, gt_iff_lt, ge_iff_le]
  refine (Next_W k5 ⟨by decide, by decide⟩).mono fun r1 ⟨h1, h2⟩ => ?_
  rw [w64 (x := 1 + r1.1) (by omega)]
  have hmm : 3 * m * (h - 1) ≤ 6 * m := by
    have : 3 * m * (h - 1) ≤ 3 * m * 2 := Int.mul_le_mul_of_nonneg_left (by omega) (by omega)
    omega
  refine ⟨fun hh => ?_, fun hh => ⟨⟨k3.ok, k3.lt, by have := k3.len; omega⟩, h2⟩⟩
  refine (Files_W h2 (h := h) (m := m) (by omega) hm).mono fun r2 ⟨⟨h3, h4⟩, h5⟩ => ?_
  have hdis : ∀ e ∈ out, e.Host < h := k4
  refine Wp_loop (fun j => 0 ≤ j.1 ∧ j.1 ≤ (r2.1.length : Int) ∧ EvsOk j.2 (3 * m * (h - 1) + m * j.1) ∧ (∀ e ∈ j.2, e.Host < h ∨ (e.Host = h ∧ e.File < 5 + j.1))) (fun j => ((r2.1.length : Int) - j.1).toNat)
    ⟨Int.le_refl _, by show (0 : Int) ≤ _; omega, ⟨k3.ok, k3.lt, by have := k3.len; show (out.length : Int) ≤ 3 * m * (h - 1) + m * 0; omega⟩, fun e he => .inl (k4 e he)⟩ ?_
  rintro ⟨i, o⟩ ⟨q1, q2, q3, q4⟩
  dsimp only at q1 q2 q3 q4
  simp only [L_draw_Codes_Events_4, Wp_some, Wp_gd, Wp_cond, Wp_bd, Wp_bnd, Wp_bindE, Sum.elim_inl, Sum.elim_inr, condO, condA, decide_eq_true_eq, decide_eq_false_iff_not, Bool.or_eq_true, Bool.or_eq_false_iff, Bool.and_eq_true, Bool.and_eq_false_iff, Bool.not_eq_true', Bool.not_eq_false', bne_iff_ne, bne_eq_false_iff_eq, beq_iff_eq, beq_eq_false_iff_ne, true_and, and_true, Int.not_lt, Int.not_le, ne_eq, not_false_eq_true, implies_true, forall_const, gt_iff_lt, ge_iff_le]
  refine ⟨fun hi => ?_, fun hi => ?_⟩
  · have hf := h4 i ⟨q1, hi⟩
    generalize hF : r2.1.getD i.toNat default = fl at *
    have hmi : m * (i + 1) = m * i + m := by rw [Int.mul_add, Int.mul_one]
    refine Wp_loop (fun j => 0 ≤ j.1 ∧ j.1 ≤ (fl.length : Int) ∧ EvsOk j.2 (3 * m * (h - 1) + m * i + j.1) ∧ (∀ e ∈ j.2, e.Host < h ∨ (e.Host = h ∧ (e.File < 5 + i ∨ (e.File = 5 + i ∧ ∀ x ∈ fl.drop j.1.toNat, e.From < x.Event.From))))) (fun j => ((fl.length : Int) - j.1).toNat)
      ⟨Int.le_refl _, by show (0 : Int) ≤ _; omega, ⟨q3.ok, q3.lt, by have := q3.len; show (o.length : Int) ≤ 3 * m * (h - 1) + m * i + 0; omega⟩, fun e he => (q4 e he).imp id fun z => ⟨z.1, .inl z.2⟩⟩ ?_
    rintro ⟨k, o⟩ ⟨p1, p2, p3, p4⟩
    dsimp only at p1 p2 p3 p4
    simp only [L_draw_Codes_Events_6, Wp_some, Wp_gd, Wp_cond, Wp_bd, Wp_bnd, Wp_bindE, Sum.elim_inl, Sum.elim_inr, condO, condA, decide_eq_true_eq, decide_eq_false_iff_not, Bool.or_eq_true, Bool.or_eq_false_iff, Bool.and_eq_true, Bool.and_eq_false_iff, Bool.not_eq_true', Bool.not_eq_false', bne_iff_ne, bne_eq_false_iff_eq, beq_iff_eq, beq_eq_false_iff_ne, true_and, and_true, Int.not_lt, Int.not_le, ne_eq, not_false_eq_true, implies_true, forall_const, gt_iff_lt, ge_iff_le, hF]
    refine ⟨⟨q1, hi⟩, fun hk => ?_, fun hk => ?_⟩
    · have hkn : k.toNat < fl.length := by omega
      have hit := getD_int (d := default) hf.1 ⟨p1, hk⟩
      have hg : fl.getD k.toNat default = fl[k.toNat] := getD_get hkn
      have hdrop : fl.drop k.toNat = fl.getD k.toNat default :: fl.drop (k + 1).toNat := by
        rw [hg, List.drop_eq_getElem_cons hkn]
        congr 2
        omega
      have hlt : ∀ y ∈ fl.drop (k + 1).toNat, (fl.getD k.toNat default).Event.From < y.Event.From := by
        have := hf.2.1.sublist (List.drop_sublist k.toNat fl)
        rw [hdrop] at this
        exact (List.pairwise_cons.1 this).1
      generalize hX : fl.getD k.toNat default = x at *
      rw [w64 (x := k + 1) (by have := hf.2.2; omega)]
      refine ⟨⟨p1, hk⟩, fun hr => ?_, fun hr => ?_⟩
      · refine (Insert_W p3.lt (fun e he => ?_) (by have := p3.len; have := hf.2.2; have : m * i ≤ m * 3 := Int.mul_le_mul_of_nonneg_left (by omega) (by omega); omega)).mono fun r6 ⟨g1, g2, g3⟩ => ⟨⟨by omega, by omega, ⟨?_, g1, by have := p3.len; omega⟩, ?_⟩, by omega⟩
        · unfold kLt
          rw [hit.host, hit.file]
          rcases p4 e he with z | ⟨z1, z2⟩
          · exact .inl z
          · refine .inr ⟨z1, z2.imp id fun z3 => ⟨z3.1, z3.2 x ?_⟩⟩
            rw [hdrop]
            exact List.mem_cons_self
        · intro e he
          rcases g3 e he with z | z
          · subst z
            exact hit.ev (beq_iff_eq.2 hr)
          · exact p3.ok e z
        · intro e he
          rcases g3 e he with z | z
          · subst z
            exact .inr ⟨hit.host, .inr ⟨hit.file, hlt⟩⟩
          · refine (p4 e z).imp id fun z => ⟨z.1, z.2.imp id fun z => ⟨z.1, fun y hy => z.2 y ?_⟩⟩
            rw [hdrop]
            exact List.mem_cons_of_mem _ hy
      · refine ⟨⟨by omega, by omega, ⟨p3.ok, p3.lt, by have := p3.len; omega⟩, fun e he => ?_⟩, by omega⟩
        refine (p4 e he).imp id fun z => ⟨z.1, z.2.imp id fun z => ⟨z.1, fun y hy => z.2 y ?_⟩⟩
        rw [hdrop]
        exact List.mem_cons_of_mem _ hy
    · rw [w64 (x := i + 1) (by omega)]
      have := hf.2.2
      refine ⟨⟨by omega, by omega, ⟨p3.ok, p3.lt, ?_⟩, fun e he => ?_⟩, by omega⟩
      · have := p3.len
        show (o.length : Int) ≤ 3 * m * (h - 1) + m * (i + 1)
        omega
      · refine (p4 e he).imp id fun z => ⟨z.1, ?_⟩
        have := z.2
        show e.File < 5 + (i + 1)
        omega
  · rw [w64 (x := h + 1) (by omega)]
    have hmi : m * i ≤ m * 3 := Int.mul_le_mul_of_nonneg_left (by omega) (by omega)
    have hmh : 3 * m * (h + 1 - 1) = 3 * m * (h - 1) + 3 * m := by
      rw [show h + 1 - 1 = (h - 1) + 1 by omega, Int.mul_add, Int.mul_one]
    refine ⟨⟨by omega, by omega, ⟨q3.ok, q3.lt, ?_⟩, fun e he => ?_, h5⟩, by omega⟩
    · have := q3.len
      show (o.length : Int) ≤ 3 * m * (h + 1 - 1)
      omega
    · have := q4 e he
      show e.Host < h + 1
      omega
end Go.Abs
