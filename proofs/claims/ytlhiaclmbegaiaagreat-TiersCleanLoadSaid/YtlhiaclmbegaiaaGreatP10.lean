/- DERIVED. Plain laws, part 10: manifests, shelves, the scene. -/
import Derived.Test.YtlhiaclmbegaiaaGreatP9
set_option linter.unusedVariables false
set_option linter.unusedSimpArgs false
namespace Go.Abs
open Go

def byte (x : Int) : Prop := 0 ≤ x ∧ x < 256
theorem wU8_byte (x : Int) : byte (IntKind.wrap .u8 x) := by
  unfold byte
  rw [wU8]
  omega
theorem Put_B {b : List Int} {v w : Int} (hw : 0 ≤ w ∧ w ≤ 8) (hb : b.length ≤ 70000000000000) (hx : ∀ x ∈ b, byte x) : Wp (F_r27_Put b v w) fun r => r.length = b.length + w.toNat ∧ ∀ x ∈ r, byte x := by
  refine (Put_W hw hb).and ?_
  simp only [F_r27_Put, Wp_some, Wp_gd, Wp_cond, Wp_bd, Wp_bnd, Wp_bindE, Sum.elim_inl, Sum.elim_inr, condO, condA, decide_eq_true_eq, decide_eq_false_iff_not, Bool.or_eq_true, Bool.or_eq_false_iff, Bool.and_eq_true, Bool.and_eq_false_iff, Bool.not_eq_true', Bool.not_eq_false', bne_iff_ne, bne_eq_false_iff_eq, beq_iff_eq, beq_eq_false_iff_ne, true_and, and_true, Int.not_lt, Int.not_le, ne_eq, not_false_eq_true, implies_true, forall_const, gt_iff_lt, ge_iff_le]
  rw [w64 (x := w - 1) (by omega)]
  refine Wp_loop (fun j => -1 ≤ j.1 ∧ j.1 < w ∧ (j.2.length : Int) = b.length + (w - 1 - j.1) ∧ ∀ x ∈ j.2, byte x) (fun j => (j.1 + 1).toNat) ⟨by show -1 ≤ w - 1; omega, by show w - 1 < w; omega, by show (b.length : Int) = b.length + (w - 1 - (w - 1)); omega, hx⟩ ?_
  rintro ⟨k, c⟩ ⟨k1, k2, k3, k4⟩
  dsimp only at k1 k2 k3 k4
  simp only [L_r27_Put_2, Wp_some, Wp_gd, Wp_cond, Wp_bd, Wp_bnd, Wp_bindE, Sum.elim_inl, Sum.elim_inr, condO, condA, decide_eq_true_eq, decide_eq_false_iff_not, Bool.or_eq_true, Bool.or_eq_false_iff, Bool.and_eq_true, Bool.and_eq_false_iff, Bool.not_eq_true', Bool.not_eq_false', bne_iff_ne, bne_eq_false_iff_eq, beq_iff_eq, beq_eq_false_iff_ne, true_and, and_true, Int.not_lt, Int.not_le, ne_eq, not_false_eq_true, implies_true, forall_const, gt_iff_lt, ge_iff_le, List.length_append, List.length_cons, List.length_nil]
  rw [w64 (x := 8 * k) (by omega), w64 (x := k - 1) (by omega)]
  refine ⟨fun hk => ⟨by omega, by omega, ⟨by omega, by omega, by omega, fun x hx => ?_⟩, by omega⟩, fun hk => k4⟩
  rcases List.mem_append.1 hx with hx | hx
  · exact k4 x hx
  · simp only [List.mem_singleton] at hx
    subst hx
    exact wU8_byte _

theorem Encode27_B {l : List S_Event} {n : Int} (h : EvsOk l n) (hn : n ≤ 150) : Wp (F_r27_Encode l) fun r => ∀ x ∈ r.1.take 124, byte x := by
  have hlen := h.len
  simp only [F_r27_Encode, Wp_some, Wp_gd, Wp_cond, Wp_bd, Wp_bnd, Wp_bindE, Sum.elim_inl, Sum.elim_inr, condO, condA, decide_eq_true_eq, decide_eq_false_iff_not, Bool.or_eq_true, Bool.or_eq_false_iff, Bool.and_eq_true, Bool.and_eq_false_iff, Bool.not_eq_true', Bool.not_eq_false', bne_iff_ne, bne_eq_false_iff_eq, beq_iff_eq, beq_eq_false_iff_ne, true_and, and_true, Int.not_lt, Int.not_le, ne_eq, not_false_eq_true, implies_true, forall_const, gt_iff_lt, ge_iff_le, List.length_append]
  refine (Check27_W h hn).mono fun r1 h1 => ⟨fun q => absurd h1 q, fun _ => ?_⟩
  have fin : ∀ t u : Int, Wp (F_r27_Put [76, 84, 83, 49] (IntKind.wrap .u64 (l.length : Int)) 4) fun r => Wp (F_r27_Put r (IntKind.wrap .u64 t) 8) fun r => Wp (F_r27_Put r (IntKind.wrap .u64 u) 8) fun r => Wp (loop (L_r27_Encode_3 l) (1, r, ([] : List Int))) (Sum.elim (fun s => Wp (F_r27_Crc s.1) fun r => Wp (F_r27_Put s.1 (IntKind.wrap .u64 r) 4) fun r => (r.length + s.2.length) * 1 ≤ 140737488355328 ∧ ∀ x ∈ (r ++ s.2).take 124, byte x) fun r => ∀ x ∈ r.1.take 124, byte x) := by
    intro t u
    refine (Put_B (by decide) (by decide) (by unfold byte; decide)).mono fun r4 ⟨h4, b4⟩ => ?_
    refine (Put_B (by decide) (by rw [h4]; decide) b4).mono fun r5 ⟨h5, b5⟩ => ?_
    refine (Put_B (by decide) (by rw [h5, h4]; decide) b5).mono fun r6 ⟨h6, b6⟩ => ?_
    have h6 : r6.length = 24 := by rw [h6, h5, h4]; rfl
    refine Wp_loop (fun j => 1 ≤ j.1 ∧ j.1 ≤ 13 ∧ (j.2.1.length : Int) = 16 + 8 * j.1 ∧ (j.2.2.length : Int) ≤ 137438953472 * (j.1 - 1) ∧ ∀ x ∈ j.2.1, byte x) (fun j => (13 - j.1).toNat) ⟨Int.le_refl _, by show (1 : Int) ≤ 13; decide, by show (r6.length : Int) = 16 + 8 * 1; omega, Int.le_refl _, b6⟩ ?_
    rintro ⟨k, a, b⟩ ⟨k1, k2, k3, k4, k5⟩
    dsimp only at k1 k2 k3 k4 k5
    simp only [L_r27_Encode_3, Wp_some, Wp_gd, Wp_cond, Wp_bd, Wp_bnd, Wp_bindE, Sum.elim_inl, Sum.elim_inr, condO, condA, decide_eq_true_eq, decide_eq_false_iff_not, Bool.or_eq_true, Bool.or_eq_false_iff, Bool.and_eq_true, Bool.and_eq_false_iff, Bool.not_eq_true', Bool.not_eq_false', bne_iff_ne, bne_eq_false_iff_eq, beq_iff_eq, beq_eq_false_iff_ne, true_and, and_true, Int.not_lt, Int.not_le, ne_eq, not_false_eq_true, implies_true, forall_const, gt_iff_lt, ge_iff_le, List.length_append]
    rw [w64 (x := k + 1) (by omega)]
    refine ⟨fun hk => ?_, fun hk => ?_⟩
    · refine (section_W h hn).mono fun r7 h7 => ?_
      refine (Put_B (by decide) (by omega) k5).mono fun r8 ⟨h8, b8⟩ => ?_
      refine (Crc_W (by omega)).mono fun r9 h9 => ?_
      refine (Put_B (by decide) (by omega) b8).mono fun r10 ⟨h10, b10⟩ => ?_
      have e8 : Int.toNat 4 = 4 := rfl
      exact ⟨by omega, ⟨by omega, by omega, by omega, by omega, b10⟩, by omega⟩
    · refine (Crc_W (by omega)).mono fun r12 h12 => ?_
      refine (Put_B (by decide) (by omega) k5).mono fun r13 ⟨h13, b13⟩ => ⟨?_, fun x hx => ?_⟩
      · have e8 : Int.toNat 4 = 4 := rfl
        omega
      · have e8 : Int.toNat 4 = 4 := rfl
        rw [List.take_append_of_le_length (by omega)] at hx
        exact b13 x (List.mem_of_mem_take hx)
  refine ⟨fun hp => ⟨by omega, ?_, fin _ _⟩, fun _ => fin _ _⟩
  rw [w64 (x := (l.length : Int) - 1) (by omega)]
  omega

/-! ### Manifests -/
theorem tallies_W {l : List S_Tally} (hl : l.length ≤ 1099511627776) : Wp (F_r30_tallies l) fun _ => True := by
  simp only [F_r30_tallies, Wp_some, Wp_gd, Wp_cond, Wp_bd, Wp_bnd, Wp_bindE, Sum.elim_inl, Sum.elim_inr, condO, condA, decide_eq_true_eq, decide_eq_false_iff_not, Bool.or_eq_true, Bool.or_eq_false_iff, Bool.and_eq_true, Bool.and_eq_false_iff, Bool.not_eq_true', Bool.not_eq_false', bne_iff_ne, bne_eq_false_iff_eq, beq_iff_eq, beq_eq_false_iff_ne, true_and, and_true, Int.not_lt, Int.not_le, ne_eq, not_false_eq_true, implies_true, forall_const, gt_iff_lt, ge_iff_le]
  refine Wp_loop (fun j => 1 ≤ j) (fun j => ((l.length : Int) - j).toNat) (by omega) ?_
  rintro i k1
  simp only [L_r30_tallies_2, Wp_some, Wp_gd, Wp_cond, Wp_bd, Wp_bnd, Wp_bindE, Sum.elim_inl, Sum.elim_inr, condO, condA, decide_eq_true_eq, decide_eq_false_iff_not, Bool.or_eq_true, Bool.or_eq_false_iff, Bool.and_eq_true, Bool.and_eq_false_iff, Bool.not_eq_true', Bool.not_eq_false', bne_iff_ne, bne_eq_false_iff_eq, beq_iff_eq, beq_eq_false_iff_ne, true_and, and_true, Int.not_lt, Int.not_le, ne_eq, not_false_eq_true, implies_true, forall_const, gt_iff_lt, ge_iff_le]
  intro hi
  rw [w64 (x := i - 1) (by omega), w64 (x := i + 1) (by omega)]
  refine ⟨by omega, by omega, fun _ => by omega, fun _ => by omega, fun _ => by omega, fun _ => by omega, fun _ => by omega⟩

structure MOk (m : S_Manifest) : Prop where
  seg : m.Segments.length ≤ 64
  mrk : m.Intake.Marks.length ≤ 1000000
  tl : m.Intake.Tallies.length ≤ 1000000
  ex : m.Expired.length ≤ 1000000

theorem Check30_W {m : S_Manifest} (hs : m.Segments.length ≤ 1000000) (h1 : m.Intake.Marks.length ≤ 1000000) (h2 : m.Intake.Tallies.length ≤ 1000000) (h3 : m.Expired.length ≤ 1000000) : Wp (F_r30_Check m) fun r => r = 0 → MOk m := by
  simp only [F_r30_Check, Wp_some, Wp_gd, Wp_cond, Wp_bd, Wp_bnd, Wp_bindE, Sum.elim_inl, Sum.elim_inr, condO, condA, decide_eq_true_eq, decide_eq_false_iff_not, Bool.or_eq_true, Bool.or_eq_false_iff, Bool.and_eq_true, Bool.and_eq_false_iff, Bool.not_eq_true', Bool.not_eq_false', bne_iff_ne, bne_eq_false_iff_eq, beq_iff_eq, beq_eq_false_iff_ne, true_and, and_true, Int.not_lt, Int.not_le, ne_eq, not_false_eq_true, implies_true, forall_const, gt_iff_lt, ge_iff_le]
  refine ⟨fun _ h => by omega, fun h0 => ⟨fun _ h => by omega, fun _ => ?_⟩⟩
  have hm : MOk m := ⟨by omega, h1, h2, h3⟩
  refine Wp_loop (fun j => 0 ≤ j ∧ j ≤ (m.Segments.length : Int)) (fun j => ((m.Segments.length : Int) - j).toNat) ⟨Int.le_refl _, by omega⟩ ?_
  rintro i ⟨k1, k2⟩
  simp only [L_r30_Check_2, Wp_some, Wp_gd, Wp_cond, Wp_bd, Wp_bnd, Wp_bindE, Sum.elim_inl, Sum.elim_inr, condO, condA, decide_eq_true_eq, decide_eq_false_iff_not, Bool.or_eq_true, Bool.or_eq_false_iff, Bool.and_eq_true, Bool.and_eq_false_iff, Bool.not_eq_true', Bool.not_eq_false', bne_iff_ne, bne_eq_false_iff_eq, beq_iff_eq, beq_eq_false_iff_ne, true_and, and_true, Int.not_lt, Int.not_le, ne_eq, not_false_eq_true, implies_true, forall_const, gt_iff_lt, ge_iff_le]
  rw [w64 (x := i + 1) (by omega)]
  refine ⟨fun hi => ⟨⟨k1, hi⟩, fun _ _ => hm, fun _ => by omega⟩, fun hi => ?_⟩
  refine Wp_loop (fun j => 1 ≤ j) (fun j => ((m.Segments.length : Int) - j).toNat) (by omega) ?_
  rintro i k1
  simp only [L_r30_Check_4, Wp_some, Wp_gd, Wp_cond, Wp_bd, Wp_bnd, Wp_bindE, Sum.elim_inl, Sum.elim_inr, condO, condA, decide_eq_true_eq, decide_eq_false_iff_not, Bool.or_eq_true, Bool.or_eq_false_iff, Bool.and_eq_true, Bool.and_eq_false_iff, Bool.not_eq_true', Bool.not_eq_false', bne_iff_ne, bne_eq_false_iff_eq, beq_iff_eq, beq_eq_false_iff_ne, true_and, and_true, Int.not_lt, Int.not_le, ne_eq, not_false_eq_true, implies_true, forall_const, gt_iff_lt, ge_iff_le]
  refine ⟨fun hi => ?_, fun hi => ?_⟩
  · rw [w64 (x := i - 1) (by omega), w64 (x := i + 1) (by omega)]
    exact ⟨by omega, by omega, fun _ _ => hm, fun _ => by omega⟩
  refine Wp_loop (fun j => 1 ≤ j) (fun j => ((m.Intake.Marks.length : Int) - j).toNat) (by omega) ?_
  rintro i k1
  simp only [L_r30_Check_6, Wp_some, Wp_gd, Wp_cond, Wp_bd, Wp_bnd, Wp_bindE, Sum.elim_inl, Sum.elim_inr, condO, condA, decide_eq_true_eq, decide_eq_false_iff_not, Bool.or_eq_true, Bool.or_eq_false_iff, Bool.and_eq_true, Bool.and_eq_false_iff, Bool.not_eq_true', Bool.not_eq_false', bne_iff_ne, bne_eq_false_iff_eq, beq_iff_eq, beq_eq_false_iff_ne, true_and, and_true, Int.not_lt, Int.not_le, ne_eq, not_false_eq_true, implies_true, forall_const, gt_iff_lt, ge_iff_le]
  refine ⟨fun hi => ?_, fun hi => ?_⟩
  · rw [w64 (x := i - 1) (by omega), w64 (x := i + 1) (by omega)]
    refine ⟨by omega, by omega, fun _ => by omega, fun _ => by omega, fun _ => by omega, fun _ => by omega, fun _ _ => hm, fun _ => by omega⟩
  refine (tallies_W (by omega)).mono fun r14 _ => ?_
  exact ⟨fun _ => (tallies_W (by omega)).mono fun r _ => ⟨fun _ _ => hm, fun _ => hm⟩, fun _ => ⟨fun _ _ => hm, fun _ => hm⟩⟩

theorem Add_W {m : S_Manifest} {s : S_SegmentInfo} (h : MOk m) : Wp (F_r30_Add m s) fun r => r.2 = 0 → MOk r.1 := by
  have hs := h.seg
  simp only [F_r30_Add, Wp_some, Wp_gd, Wp_cond, Wp_bd, Wp_bnd, Wp_bindE, Sum.elim_inl, Sum.elim_inr, condO, condA, decide_eq_true_eq, decide_eq_false_iff_not, Bool.or_eq_true, Bool.or_eq_false_iff, Bool.and_eq_true, Bool.and_eq_false_iff, Bool.not_eq_true', Bool.not_eq_false', bne_iff_ne, bne_eq_false_iff_eq, beq_iff_eq, beq_eq_false_iff_ne, true_and, and_true, Int.not_lt, Int.not_le, ne_eq, not_false_eq_true, implies_true, forall_const, gt_iff_lt, ge_iff_le, List.length_append, List.length_cons, List.length_nil]
  refine (Check30_W (by omega) h.mrk h.tl h.ex).mono fun r1 _ => ⟨fun q e => absurd e q, fun _ => ⟨by omega, by omega, ?_⟩⟩
  refine Wp.mono (Check30_W (by simp only [List.length_append, List.length_cons, List.length_nil]; omega) (by exact h.mrk) (by exact h.tl) (by exact h.ex)) fun r5 h5 => ⟨fun q e => absurd e q, fun q => h5 q⟩

/-! ### Shelves -/
def kB (x : S_Blob) (id t : Int) : Prop := x.ID < id ∨ (x.ID = id ∧ x.Tier < t)
instance (x : S_Blob) (id t : Int) : Decidable (kB x id t) := by unfold kB; infer_instance
def bLt (a b : S_Blob) : Prop := kB a b.ID b.Tier
theorem kB.trans {a b : S_Blob} {id t : Int} (h : bLt a b) (k : kB b id t) : kB a id t := by
  unfold bLt kB at *
  omega
def BOk (x : S_Blob) : Prop := x.Data.length ≤ 2199023255552 ∧ ∀ v ∈ x.Data.take 124, byte v
structure ShOk (l : List S_Blob) (n : Int) : Prop where
  lt : l.Pairwise bLt
  ok : ∀ x ∈ l, BOk x
  len : (l.length : Int) ≤ n

/-- The place of a key on a shelf. -/
def Cut (l : List S_Blob) (id t i : Int) : Prop := (0 ≤ i ∧ i ≤ (l.length : Int)) ∧ (∀ x ∈ l.take i.toNat, kB x id t) ∧ ∀ x ∈ l.drop i.toNat, ¬ kB x id t
theorem Cut.uniq {l : List S_Blob} {id t i j : Int} (h : Cut l id t i) (k : Cut l id t j) : i = j := by
  have key : ∀ i j : Int, Cut l id t i → Cut l id t j → ¬ i < j := by
    intro i j h k hij
    have hi : i.toNat < l.length := by have := h.1; have := k.1; omega
    have h1 : l[i.toNat] ∈ l.take j.toNat := List.mem_take_iff_getElem.2 ⟨i.toNat, by have := h.1; have := k.1; omega, rfl⟩
    have h2 : l[i.toNat] ∈ l.drop i.toNat := List.mem_drop_iff_getElem.2 ⟨0, by omega, by simp⟩
    exact h.2.2 _ h2 (k.2.1 _ h1)
  have := key i j h k
  have := key j i k h
  omega
def hitAt (l : List S_Blob) (id t i : Int) : Prop := i < (l.length : Int) ∧ (l.getD i.toNat default).ID = id ∧ (l.getD i.toNat default).Tier = t
instance (l : List S_Blob) (id t i : Int) : Decidable (hitAt l id t i) := by unfold hitAt; infer_instance

theorem less_eq (x : S_Blob) (id t : Int) : F_r33_less x id t = some (decide (kB x id t)) := by
  refine Wp.eq ?_
  simp only [F_r33_less, Wp_some]
  rw [Bool.eq_iff_iff, decide_eq_true_eq]
  unfold kB
  simp only [condO, condA, Bool.or_eq_true, Bool.and_eq_true, decide_eq_true_eq, beq_iff_eq]

theorem at_W {l : List S_Blob} {id t : Int} (hs : l.Pairwise bLt) (hl : l.length ≤ 1099511627776) : Wp (F_r33_at l id t) fun r => Cut l id t r.1 ∧ (r.2 = true ↔ hitAt l id t r.1) := by
  simp only [F_r33_at, Wp_some, Wp_gd, Wp_cond, Wp_bd, Wp_bnd, Wp_bindE, Sum.elim_inl, Sum.elim_inr, condO, condA, decide_eq_true_eq, decide_eq_false_iff_not, Bool.or_eq_true, Bool.or_eq_false_iff, Bool.and_eq_true, Bool.and_eq_false_iff, Bool.not_eq_true', Bool.not_eq_false', bne_iff_ne, bne_eq_false_iff_eq, beq_iff_eq, beq_eq_false_iff_ne, true_and, and_true, Int.not_lt, Int.not_le, ne_eq, not_false_eq_true, implies_true, forall_const, gt_iff_lt, ge_iff_le]
  refine Wp_loop (fun j => 0 ≤ j ∧ j ≤ (l.length : Int) ∧ ∀ x ∈ l.take j.toNat, kB x id t) (fun j => ((l.length : Int) - j).toNat) ⟨Int.le_refl _, by omega, by simp⟩ ?_
  rintro i ⟨k1, k2, k3⟩
  simp only [L_r33_at_2, Wp_some, Wp_gd, Wp_cond, Wp_bd, Wp_bnd, Wp_bindE, Sum.elim_inl, Sum.elim_inr, condO, condA, decide_eq_true_eq, decide_eq_false_iff_not, Bool.or_eq_true, Bool.or_eq_false_iff, Bool.and_eq_true, Bool.and_eq_false_iff, Bool.not_eq_true', Bool.not_eq_false', bne_iff_ne, bne_eq_false_iff_eq, beq_iff_eq, beq_eq_false_iff_ne, true_and, and_true, Int.not_lt, Int.not_le, ne_eq, not_false_eq_true, implies_true, forall_const, gt_iff_lt, ge_iff_le, less_eq]
  rw [w64 (x := i + 1) (by omega)]
  have fin : (i < (l.length : Int) → ¬ kB (l.getD i.toNat default) id t) → Cut l id t i := by
    intro h
    refine ⟨⟨k1, k2⟩, k3, ?_⟩
    by_cases hi : i < (l.length : Int)
    · have hd := drop_getD (d := default) ⟨k1, hi⟩
      have hp := hs.sublist (List.drop_sublist i.toNat l)
      rw [hd] at hp ⊢
      have hp := List.pairwise_cons.1 hp
      intro x hx
      rcases List.mem_cons.1 hx with hx | hx
      · subst hx
        exact h hi
      · exact fun q => h hi (kB.trans (hp.1 x hx) q)
    · rw [List.drop_eq_nil_of_le (by omega)]
      simp
  have stp : i < (l.length : Int) → kB (l.getD i.toNat default) id t → ∀ x ∈ l.take (i + 1).toNat, kB x id t := by
    intro hi hk x hx
    rw [take_getD (d := default) ⟨k1, hi⟩] at hx
    rcases List.mem_append.1 hx with hx | hx
    · exact k3 x hx
    · simp only [List.mem_singleton] at hx
      subst hx
      exact hk
  have hh : ((i < (l.length : Int) ∧ (l.getD i.toNat default).ID = id) ∧ (l.getD i.toNat default).Tier = t ↔ hitAt l id t i) := by
    unfold hitAt
    rw [and_assoc]
  refine ⟨fun h => ⟨k1, h⟩, fun hi => ⟨fun h => ⟨⟨by omega, by omega, stp hi h.2⟩, by omega⟩, fun h => ⟨fun h => ⟨k1, h⟩, fun h => ⟨k1, h.1⟩, fin fun _ => ?_, hh⟩⟩, fun hi => ⟨fun h => by omega, fun _ => ⟨fun h => ⟨k1, h⟩, fun h => ⟨k1, h.1⟩, fin fun h => by omega, hh⟩⟩⟩
  exact h.resolve_left (by omega)

theorem Put33_W {l : List S_Blob} {x : S_Blob} {n : Int} (h : ShOk l n) (hn : n ≤ 1000000) (hx : BOk x) : Wp (F_r33_Put l x) fun r => ShOk r (n + 1) := by
  have hlen := h.len
  have hxl := hx.1
  simp only [F_r33_Put, Wp_some, Wp_gd, Wp_cond, Wp_bd, Wp_bnd, Wp_bindE, Sum.elim_inl, Sum.elim_inr, condO, condA, decide_eq_true_eq, decide_eq_false_iff_not, Bool.or_eq_true, Bool.or_eq_false_iff, Bool.and_eq_true, Bool.and_eq_false_iff, Bool.not_eq_true', Bool.not_eq_false', bne_iff_ne, bne_eq_false_iff_eq, beq_iff_eq, beq_eq_false_iff_ne, true_and, and_true, Int.not_lt, Int.not_le, ne_eq, not_false_eq_true, implies_true, forall_const, gt_iff_lt, ge_iff_le]
  refine (at_W h.lt (by omega)).mono fun r1 ⟨hc, hh⟩ => ?_
  obtain ⟨⟨c1, c2⟩, c3, c4⟩ := hc
  have key : ∀ j : Int, r1.1 ≤ j → j ≤ (l.length : Int) → (∀ y ∈ l.drop j.toNat, bLt x y) → ∀ z : S_Blob, z.ID = x.ID → z.Tier = x.Tier → BOk z → ShOk ((([] : List S_Blob) ++ sub l 0 r1.1) ++ [z] ++ sub l j (l.length : Int)) (n + 1) := by
    intro j j1 j2 hd z z1 z2 z3
    rw [sub_take, sub_drop, List.nil_append]
    have hz : ∀ y, bLt x y → bLt z y := by
      intro y
      unfold bLt kB
      rw [z1, z2]
      exact fun h => h
    have hb : ∀ a ∈ l.take r1.1.toNat, bLt a z := by
      intro a ha
      have := c3 a ha
      unfold bLt
      rw [z1, z2]
      exact this
    refine ⟨?_, ?_, ?_⟩
    · rw [List.append_assoc]
      refine List.pairwise_append.2 ⟨h.lt.sublist (List.take_sublist _ _), ?_, ?_⟩
      · refine List.pairwise_append.2 ⟨by simp, h.lt.sublist (List.drop_sublist _ _), ?_⟩
        intro a ha b hb2
        simp only [List.mem_singleton] at ha
        subst ha
        exact hz b (hd b hb2)
      · intro a ha b hb'
        rcases List.mem_append.1 hb' with hb' | hb'
        · simp only [List.mem_singleton] at hb'
          subst hb'
          exact hb a ha
        · have := kB.trans (hb a ha) (hz b (hd b hb'))
          exact this
    · intro y hy
      rcases List.mem_append.1 hy with hy | hy
      · rcases List.mem_append.1 hy with hy | hy
        · exact h.ok y (List.mem_of_mem_take hy)
        · simp only [List.mem_singleton] at hy
          subst hy
          exact z3
      · exact h.ok y (List.mem_of_mem_drop hy)
    · simp only [List.length_append, List.length_take, List.length_drop, List.length_cons, List.length_nil]
      omega
  have len1 : (sub l 0 r1.1).length ≤ l.length := by rw [sub_take]; simp; omega
  have len2 : ∀ j, (sub l j (l.length : Int)).length ≤ l.length := by intro j; rw [sub_drop]; simp
  simp only [List.length_append, List.length_cons, List.length_nil]
  have hd0 : ∀ hi : r1.1 < (l.length : Int), ∀ y ∈ l.drop (r1.1 + 1).toNat, bLt (l.getD r1.1.toNat default) y := by
    intro hi
    have hp := h.lt.sublist (List.drop_sublist r1.1.toNat l)
    rw [drop_getD (d := default) ⟨c1, hi⟩] at hp
    exact (List.pairwise_cons.1 hp).1
  refine ⟨by omega, ⟨by omega, by omega, c2⟩, by omega, by omega, fun q => ?_, fun q => ?_⟩
  · obtain ⟨g1, g2, g3⟩ := hh.1 q
    rw [w64 (x := r1.1 + 1) (by omega)]
    have := len2 (r1.1 + 1)
    refine ⟨by omega, by omega, key (r1.1 + 1) (by omega) (by omega) (fun y hy => ?_) _ rfl rfl hx⟩
    have := hd0 g1 y hy
    unfold bLt kB at this ⊢
    rw [g2, g3] at this
    exact this
  · have := len2 r1.1
    refine ⟨by omega, by omega, key r1.1 (by omega) (by omega) (fun y hy => ?_) _ rfl rfl hx⟩
    by_cases hi : r1.1 < (l.length : Int)
    · have hm := drop_getD (d := default) ⟨c1, hi⟩
      have h1 := c4 (l.getD r1.1.toNat default) (by rw [hm]; exact List.mem_cons_self)
      have h2 : ¬ hitAt l x.ID x.Tier r1.1 := fun z => by
        rw [hh.2 z] at q
        exact Bool.noConfusion q
      have h3 : bLt x (l.getD r1.1.toNat default) := by
        unfold hitAt at h2
        unfold bLt
        unfold kB at h1 ⊢
        omega
      rw [hm] at hy
      rcases List.mem_cons.1 hy with hy | hy
      · subst hy
        exact h3
      · have := kB.trans h3 (hd0 hi y hy)
        exact this
    · rw [List.drop_eq_nil_of_le (by omega)] at hy
      cases hy

theorem BOk.set {d : List Int} (h : d.length ≤ 2199023255552 ∧ ∀ v ∈ d.take 124, byte v) {i : Nat} {v : Int} (hv : byte v) : (d.set i v).length ≤ 2199023255552 ∧ ∀ x ∈ (d.set i v).take 124, byte x := by
  refine ⟨by simpa using h.1, fun x hx => ?_⟩
  rw [List.take_set] at hx
  rcases List.mem_or_eq_of_mem_set hx with hx | hx
  · exact h.2 x hx
  · subst hx
    exact hv

structure ScOk (r : List S_Blob × S_Manifest × S_draw_Codes) : Prop where
  sh : ShOk r.1 6
  m : MOk r.2.1
  c : Cw r.2.2

theorem scene_W {l : List Int} {odd : Bool} (h : ∀ x ∈ l, 0 ≤ x ∧ x < 256) (hl : l.length ≤ 9223372036854775807) : Wp (F_law33_scene l odd) ScOk := by
  simp only [F_law33_scene, Wp_some, Wp_gd, Wp_cond, Wp_bd, Wp_bnd, Wp_bindE, Sum.elim_inl, Sum.elim_inr, condO, condA, decide_eq_true_eq, decide_eq_false_iff_not, Bool.or_eq_true, Bool.or_eq_false_iff, Bool.and_eq_true, Bool.and_eq_false_iff, Bool.not_eq_true', Bool.not_eq_false', bne_iff_ne, bne_eq_false_iff_eq, beq_iff_eq, beq_eq_false_iff_ne, true_and, and_true, Int.not_lt, Int.not_le, ne_eq, not_false_eq_true, implies_true, forall_const, gt_iff_lt, ge_iff_le]
  refine (New_W h hl).mono fun r1 hc => ?_
  refine (Next_W hc ⟨by decide, by decide⟩).mono fun r2 ⟨h1, h2⟩ => ?_
  refine Wp_loop (fun j => 0 ≤ j.1 ∧ j.1 ≤ 3 ∧ Cw j.2.1 ∧ MOk j.2.2.1 ∧ ShOk j.2.2.2 (2 * (3 - j.1))) (fun j => j.1.toNat) ⟨h1.1, by show r2.1 ≤ 3; omega, h2, ⟨by simp, by simp, by simp, by simp⟩, ⟨by simp, by simp, by show (0 : Int) ≤ 2 * (3 - r2.1); omega⟩⟩ ?_
  rintro ⟨n, c, m, sh⟩ ⟨k1, k2, k3, k4, k5⟩
  dsimp only at k1 k2 k3 k4 k5
  have mono : ∀ {a b : Int} {s : List S_Blob}, ShOk s a → a ≤ b → ShOk s b := fun h g => ⟨h.lt, h.ok, Int.le_trans h.len g⟩
  simp only [L_law33_scene_2, Wp_some, Wp_gd, Wp_cond, Wp_bd, Wp_bnd, Wp_bindE, Sum.elim_inl, Sum.elim_inr, condO, condA, decide_eq_true_eq, decide_eq_false_iff_not, Bool.or_eq_true, Bool.or_eq_false_iff, Bool.and_eq_true, Bool.and_eq_false_iff, Bool.not_eq_true', Bool.not_eq_false', bne_iff_ne, bne_eq_false_iff_eq, beq_iff_eq, beq_eq_false_iff_ne, true_and, and_true, Int.not_lt, Int.not_le, ne_eq, not_false_eq_true, implies_true, forall_const, gt_iff_lt, ge_iff_le, List.length_set]
  rw [w64 (x := n - 1) (by omega)]
  refine ⟨fun hn => ?_, fun hn => ⟨mono k5 (by omega), k4, k3⟩⟩
  refine (Events_W k3 (by decide)).mono fun r3 ⟨hev, h3⟩ => ?_
  refine ((Encode27_W hev (by decide)).and (Encode27_B hev (by decide))).mono fun r4 ⟨⟨_, h4, h5⟩, h6⟩ => ?_
  have hb4 : r4.1.length ≤ 2199023255552 ∧ ∀ v ∈ r4.1.take 124, byte v := ⟨h5, h6⟩
  have fin : ∀ (c' : S_draw_Codes) (d : List Int) (id tt : Int) (m' : S_Manifest), Cw c' → (d.length ≤ 2199023255552 ∧ ∀ v ∈ d.take 124, byte v) → MOk m' →
      Wp (F_r33_Put sh { ID := id, Tier := tt, Data := d }) fun r => Wp (F_draw_Codes_Next c' 3) fun r_5 =>
        (r_5.1 = 2 → Wp (F_draw_Codes_Next r_5.2 6) fun r_6 => Wp (F_draw_Codes_Next r_6.2 3) fun r_7 => Wp (F_r33_Put r { ID := r_6.1, Tier := r_7.1, Data := d }) fun r =>
          (0 ≤ n - 1 ∧ n - 1 ≤ 3 ∧ Cw r_7.2 ∧ MOk m' ∧ ShOk r (2 * (3 - (n - 1)))) ∧ (n - 1).toNat < n.toNat) ∧
        (¬ r_5.1 = 2 → (0 ≤ n - 1 ∧ n - 1 ≤ 3 ∧ Cw r_5.2 ∧ MOk m' ∧ ShOk r (2 * (3 - (n - 1)))) ∧ (n - 1).toNat < n.toNat) := by
    intro c' d id tt m' g1 g2 g3
    refine (Put33_W (x := ⟨id, tt, d⟩) k5 (by omega) g2).mono fun r17 g4 => ?_
    refine (Next_W g1 ⟨by decide, by decide⟩).mono fun r18 ⟨_, g5⟩ => ⟨fun _ => ?_, fun _ => ⟨⟨by omega, by omega, g5, g3, mono g4 (by omega)⟩, by omega⟩⟩
    refine (Next_W g5 ⟨by decide, by decide⟩).mono fun r19 ⟨_, g6⟩ => ?_
    refine (Next_W g6 ⟨by decide, by decide⟩).mono fun r20 ⟨_, g7⟩ => ?_
    exact (Put33_W (x := ⟨r19.1, r20.1, d⟩) g4 (by omega) g2).mono fun r21 g8 => ⟨⟨by omega, by omega, g7, g3, mono g8 (by omega)⟩, by omega⟩
  refine ⟨fun hp => ⟨by omega, by omega, by rw [w64 (x := (r3.1.length : Int) - 1) (by have := hev.len; omega)]; omega, ?_⟩, fun hp => ?_⟩
  all_goals
    refine (Next_W h3 ⟨by decide, by decide⟩).mono fun r8 ⟨_, g1⟩ => ?_
    refine (Add_W k4).mono fun r9 g2 => ⟨fun _ => ⟨⟨by omega, by omega, g1, k4, mono k5 (by omega)⟩, by omega⟩, fun q => ⟨fun ho => ?_, fun ho => ?_⟩⟩
    · refine (Next_W g1 ⟨by decide, by decide⟩).mono fun r10 ⟨_, g3⟩ => ⟨fun _ => ?_, fun _ => fin _ _ _ _ _ g3 hb4 (g2 q)⟩
      refine (Next_W g3 ⟨by decide, by decide⟩).mono fun r11 ⟨_, g4⟩ => ⟨fun _ => ⟨⟨by omega, by omega, g4, g2 q, mono k5 (by omega)⟩, by omega⟩, fun _ => ⟨fun _ => ?_, fun _ => ⟨fun _ => ?_, fun _ => fin _ _ _ _ _ g4 hb4 (g2 q)⟩⟩⟩
      · refine (Next_W g4 ⟨by decide, by decide⟩).mono fun r12 ⟨g5, g6⟩ => ?_
        rw [Int.tmod_eq_emod_of_nonneg g5.1]
        refine ⟨by omega, ⟨Int.emod_nonneg _ (by omega), Int.emod_lt_of_pos _ (by omega)⟩, fin _ _ _ _ _ g6 (BOk.set hb4 (wU8_byte _)) (g2 q)⟩
      · exact (Next_W g4 ⟨by decide, by decide⟩).mono fun r16 ⟨_, g5⟩ => fin _ _ _ _ _ g5 hb4 (g2 q)
    · exact ⟨fun h => by omega, fun _ => fin _ _ _ _ _ g1 hb4 (g2 q)⟩
end Go.Abs
