/- DERIVED. Plain laws, part 6: the encoders come to an end: numbers, columns, blocks. -/
import Derived.Test.YtlhiaclmbegaiaaGreatP5
set_option linter.unusedVariables false
set_option linter.unusedSimpArgs false
namespace Go.Abs
open Go
set_option maxRecDepth 100000

theorem fdivE (x : Int) (k : Int) (n : Nat) (m : Int) (h : (2 : Int) ^ (min (Int.toNat k) n) = m) (hm : 0 ≤ m) : Int.fdiv x (2 ^ (min (Int.toNat k) n)) = x / m := by
  rw [h]
  exact Int.fdiv_eq_ediv_of_nonneg _ hm

def vStep (n : Nat) (v : Int) : Prop :=
  (n = 0 ∧ v < 18446744073709551616) ∨ (n = 1 ∧ v < 144115188075855872) ∨ (n = 2 ∧ v < 1125899906842624) ∨ (n = 3 ∧ v < 8796093022208) ∨ (n = 4 ∧ v < 68719476736) ∨ (n = 5 ∧ v < 536870912) ∨ (n = 6 ∧ v < 4194304) ∨ (n = 7 ∧ v < 32768) ∨ (n = 8 ∧ v < 256) ∨ (n = 9 ∧ v < 2)
theorem vStep.le {n : Nat} {v : Int} (h : vStep n v) : n ≤ 9 := by
  unfold vStep at h
  omega
theorem vStep.next {n : Nat} {v : Int} (h : vStep n v) (hv : 128 ≤ v) : vStep (n + 1) (v / 128) := by
  unfold vStep at h ⊢
  rcases h with h | h | h | h | h | h | h | h | h | h <;> omega

theorem PutVarint_W {b : List Int} {v : Int} (hv : 0 ≤ v ∧ v < 18446744073709551616) (hb : b.length ≤ 70368744177664) : Wp (F_r23_PutVarint b v) fun r => r.length ≤ b.length + 10 ∧ b.length < r.length := by
  simp only [F_r23_PutVarint, Wp_some, Wp_gd, Wp_cond, Wp_bd, Wp_bnd, Wp_bindE, Sum.elim_inl, Sum.elim_inr, condO, condA, decide_eq_true_eq, decide_eq_false_iff_not, Bool.or_eq_true, Bool.or_eq_false_iff, Bool.and_eq_true, Bool.and_eq_false_iff, Bool.not_eq_true', Bool.not_eq_false', bne_iff_ne, bne_eq_false_iff_eq, beq_iff_eq, beq_eq_false_iff_ne, true_and, and_true, Int.not_lt, Int.not_le, ne_eq, not_false_eq_true, implies_true, forall_const, gt_iff_lt, ge_iff_le]
  refine Wp_loop (fun j => 0 ≤ j.1 ∧ ∃ n, j.2.length = b.length + n ∧ vStep n j.1) (fun j => j.1.toNat) ⟨hv.1, 0, rfl, .inl ⟨rfl, hv.2⟩⟩ ?_
  rintro ⟨v, c⟩ ⟨k1, n, k2, k3⟩
  dsimp only at k1 k2 k3
  have k4 := k3.le
  simp only [L_r23_PutVarint_2, Wp_some, Wp_gd, Wp_cond, Wp_bd, Wp_bnd, Wp_bindE, Sum.elim_inl, Sum.elim_inr, condO, condA, decide_eq_true_eq, decide_eq_false_iff_not, Bool.or_eq_true, Bool.or_eq_false_iff, Bool.and_eq_true, Bool.and_eq_false_iff, Bool.not_eq_true', Bool.not_eq_false', bne_iff_ne, bne_eq_false_iff_eq, beq_iff_eq, beq_eq_false_iff_ne, true_and, and_true, Int.not_lt, Int.not_le, ne_eq, not_false_eq_true, implies_true, forall_const, gt_iff_lt, ge_iff_le, List.length_append, List.length_cons, List.length_nil]
  rw [fdivE v 7 64 128 rfl (by decide)]
  refine ⟨fun h => ⟨by omega, ⟨by omega, n + 1, by omega, k3.next h⟩, by omega⟩, fun h => by omega⟩

theorem wU64_range (x : Int) : 0 ≤ IntKind.wrap .u64 x ∧ IntKind.wrap .u64 x < 18446744073709551616 := by
  rw [wU64]
  omega
theorem Zigzag_W (x : Int) : Wp (F_r24_Zigzag x) fun r => 0 ≤ r ∧ r < 18446744073709551616 := by
  simp only [F_r24_Zigzag, Wp_bd, Wp_some]
  exact wU64_range _
theorem PutInt_W {b : List Int} {v : Int} (hb : b.length ≤ 70368744177664) : Wp (F_r24_PutInt b v) fun r => r.length ≤ b.length + 10 ∧ b.length < r.length := by
  simp only [F_r24_PutInt, Wp_some, Wp_gd, Wp_cond, Wp_bd, Wp_bnd, Wp_bindE, Sum.elim_inl, Sum.elim_inr, condO, condA, decide_eq_true_eq, decide_eq_false_iff_not, Bool.or_eq_true, Bool.or_eq_false_iff, Bool.and_eq_true, Bool.and_eq_false_iff, Bool.not_eq_true', Bool.not_eq_false', bne_iff_ne, bne_eq_false_iff_eq, beq_iff_eq, beq_eq_false_iff_ne, true_and, and_true, Int.not_lt, Int.not_le, ne_eq, not_false_eq_true, implies_true, forall_const, gt_iff_lt, ge_iff_le]
  exact (Zigzag_W v).mono fun r hr => PutVarint_W hr hb

theorem Bounds_W {l : List Int} (hl : l.length ≤ 1099511627776) : Wp (F_r24_Bounds l) fun _ => True := by
  simp only [F_r24_Bounds, Wp_some, Wp_gd, Wp_cond, Wp_bd, Wp_bnd, Wp_bindE, Sum.elim_inl, Sum.elim_inr, condO, condA, decide_eq_true_eq, decide_eq_false_iff_not, Bool.or_eq_true, Bool.or_eq_false_iff, Bool.and_eq_true, Bool.and_eq_false_iff, Bool.not_eq_true', Bool.not_eq_false', bne_iff_ne, bne_eq_false_iff_eq, beq_iff_eq, beq_eq_false_iff_ne, true_and, and_true, Int.not_lt, Int.not_le, ne_eq, not_false_eq_true, implies_true, forall_const, gt_iff_lt, ge_iff_le]
  intro h
  refine ⟨by omega, ?_⟩
  refine Wp_loop (fun j => 0 ≤ j.2.2 ∧ j.2.2 ≤ (l.length : Int)) (fun j => ((l.length : Int) - j.2.2).toNat) ⟨Int.le_refl _, by show (0 : Int) ≤ _; omega⟩ ?_
  rintro ⟨a, b, i⟩ ⟨k1, k2⟩
  dsimp only at k1 k2
  simp only [L_r24_Bounds_2, Wp_some, Wp_gd, Wp_cond, Wp_bd, Wp_bnd, Wp_bindE, Sum.elim_inl, Sum.elim_inr, condO, condA, decide_eq_true_eq, decide_eq_false_iff_not, Bool.or_eq_true, Bool.or_eq_false_iff, Bool.and_eq_true, Bool.and_eq_false_iff, Bool.not_eq_true', Bool.not_eq_false', bne_iff_ne, bne_eq_false_iff_eq, beq_iff_eq, beq_eq_false_iff_ne, true_and, and_true, Int.not_lt, Int.not_le, ne_eq, not_false_eq_true, implies_true, forall_const, gt_iff_lt, ge_iff_le]
  rw [w64 (x := i + 1) (by omega)]
  exact fun hi => ⟨⟨k1, hi⟩, by omega, by omega⟩

theorem tab_le : ∀ i : Nat, i < 256 → bt (ByteArray.mk #[0, 1, 2, 2, 3, 3, 3, 3, 4, 4, 4, 4, 4, 4, 4, 4, 5, 5, 5, 5, 5, 5, 5, 5, 5, 5, 5, 5, 5, 5, 5, 5, 6, 6, 6, 6, 6, 6, 6, 6, 6, 6, 6, 6, 6, 6, 6, 6, 6, 6, 6, 6, 6, 6, 6, 6, 6, 6, 6, 6, 6, 6, 6, 6, 7, 7, 7, 7, 7, 7, 7, 7, 7, 7, 7, 7, 7, 7, 7, 7, 7, 7, 7, 7, 7, 7, 7, 7, 7, 7, 7, 7, 7, 7, 7, 7, 7, 7, 7, 7, 7, 7, 7, 7, 7, 7, 7, 7, 7, 7, 7, 7, 7, 7, 7, 7, 7, 7, 7, 7, 7, 7, 7, 7, 7, 7, 7, 7, 8, 8, 8, 8, 8, 8, 8, 8, 8, 8, 8, 8, 8, 8, 8, 8, 8, 8, 8, 8, 8, 8, 8, 8, 8, 8, 8, 8, 8, 8, 8, 8, 8, 8, 8, 8, 8, 8, 8, 8, 8, 8, 8, 8, 8, 8, 8, 8, 8, 8, 8, 8, 8, 8, 8, 8, 8, 8, 8, 8, 8, 8, 8, 8, 8, 8, 8, 8, 8, 8, 8, 8, 8, 8, 8, 8, 8, 8, 8, 8, 8, 8, 8, 8, 8, 8, 8, 8, 8, 8, 8, 8, 8, 8, 8, 8, 8, 8, 8, 8, 8, 8, 8, 8, 8, 8, 8, 8, 8, 8, 8, 8, 8, 8, 8, 8, 8, 8, 8, 8, 8, 8, 8, 8, 8, 8, 8, 8]) (i : Int) ≤ 8 ∧ 0 ≤ bt (ByteArray.mk #[0, 1, 2, 2, 3, 3, 3, 3, 4, 4, 4, 4, 4, 4, 4, 4, 5, 5, 5, 5, 5, 5, 5, 5, 5, 5, 5, 5, 5, 5, 5, 5, 6, 6, 6, 6, 6, 6, 6, 6, 6, 6, 6, 6, 6, 6, 6, 6, 6, 6, 6, 6, 6, 6, 6, 6, 6, 6, 6, 6, 6, 6, 6, 6, 7, 7, 7, 7, 7, 7, 7, 7, 7, 7, 7, 7, 7, 7, 7, 7, 7, 7, 7, 7, 7, 7, 7, 7, 7, 7, 7, 7, 7, 7, 7, 7, 7, 7, 7, 7, 7, 7, 7, 7, 7, 7, 7, 7, 7, 7, 7, 7, 7, 7, 7, 7, 7, 7, 7, 7, 7, 7, 7, 7, 7, 7, 7, 7, 8, 8, 8, 8, 8, 8, 8, 8, 8, 8, 8, 8, 8, 8, 8, 8, 8, 8, 8, 8, 8, 8, 8, 8, 8, 8, 8, 8, 8, 8, 8, 8, 8, 8, 8, 8, 8, 8, 8, 8, 8, 8, 8, 8, 8, 8, 8, 8, 8, 8, 8, 8, 8, 8, 8, 8, 8, 8, 8, 8, 8, 8, 8, 8, 8, 8, 8, 8, 8, 8, 8, 8, 8, 8, 8, 8, 8, 8, 8, 8, 8, 8, 8, 8, 8, 8, 8, 8, 8, 8, 8, 8, 8, 8, 8, 8, 8, 8, 8, 8, 8, 8, 8, 8, 8, 8, 8, 8, 8, 8, 8, 8, 8, 8, 8, 8, 8, 8, 8, 8, 8, 8, 8, 8, 8, 8, 8, 8]) (i : Int) := by decide +kernel
theorem Len64_W {v : Int} (hv : 0 ≤ v ∧ v < 18446744073709551616) : Wp (F_math_bits_Len64 v) fun r => 0 ≤ r ∧ r ≤ 64 := by
  have step : ∀ x : Int, 0 ≤ x ∧ x < 256 → bt (ByteArray.mk #[0, 1, 2, 2, 3, 3, 3, 3, 4, 4, 4, 4, 4, 4, 4, 4, 5, 5, 5, 5, 5, 5, 5, 5, 5, 5, 5, 5, 5, 5, 5, 5, 6, 6, 6, 6, 6, 6, 6, 6, 6, 6, 6, 6, 6, 6, 6, 6, 6, 6, 6, 6, 6, 6, 6, 6, 6, 6, 6, 6, 6, 6, 6, 6, 7, 7, 7, 7, 7, 7, 7, 7, 7, 7, 7, 7, 7, 7, 7, 7, 7, 7, 7, 7, 7, 7, 7, 7, 7, 7, 7, 7, 7, 7, 7, 7, 7, 7, 7, 7, 7, 7, 7, 7, 7, 7, 7, 7, 7, 7, 7, 7, 7, 7, 7, 7, 7, 7, 7, 7, 7, 7, 7, 7, 7, 7, 7, 7, 8, 8, 8, 8, 8, 8, 8, 8, 8, 8, 8, 8, 8, 8, 8, 8, 8, 8, 8, 8, 8, 8, 8, 8, 8, 8, 8, 8, 8, 8, 8, 8, 8, 8, 8, 8, 8, 8, 8, 8, 8, 8, 8, 8, 8, 8, 8, 8, 8, 8, 8, 8, 8, 8, 8, 8, 8, 8, 8, 8, 8, 8, 8, 8, 8, 8, 8, 8, 8, 8, 8, 8, 8, 8, 8, 8, 8, 8, 8, 8, 8, 8, 8, 8, 8, 8, 8, 8, 8, 8, 8, 8, 8, 8, 8, 8, 8, 8, 8, 8, 8, 8, 8, 8, 8, 8, 8, 8, 8, 8, 8, 8, 8, 8, 8, 8, 8, 8, 8, 8, 8, 8, 8, 8, 8, 8, 8, 8]) x ≤ 8 ∧ 0 ≤ bt (ByteArray.mk #[0, 1, 2, 2, 3, 3, 3, 3, 4, 4, 4, 4, 4, 4, 4, 4, 5, 5, 5, 5, 5, 5, 5, 5, 5, 5, 5, 5, 5, 5, 5, 5, 6, 6, 6, 6, 6, 6, 6, 6, 6, 6, 6, 6, 6, 6, 6, 6, 6, 6, 6, 6, 6, 6, 6, 6, 6, 6, 6, 6, 6, 6, 6, 6, 7, 7, 7, 7, 7, 7, 7, 7, 7, 7, 7, 7, 7, 7, 7, 7, 7, 7, 7, 7, 7, 7, 7, 7, 7, 7, 7, 7, 7, 7, 7, 7, 7, 7, 7, 7, 7, 7, 7, 7, 7, 7, 7, 7, 7, 7, 7, 7, 7, 7, 7, 7, 7, 7, 7, 7, 7, 7, 7, 7, 7, 7, 7, 7, 8, 8, 8, 8, 8, 8, 8, 8, 8, 8, 8, 8, 8, 8, 8, 8, 8, 8, 8, 8, 8, 8, 8, 8, 8, 8, 8, 8, 8, 8, 8, 8, 8, 8, 8, 8, 8, 8, 8, 8, 8, 8, 8, 8, 8, 8, 8, 8, 8, 8, 8, 8, 8, 8, 8, 8, 8, 8, 8, 8, 8, 8, 8, 8, 8, 8, 8, 8, 8, 8, 8, 8, 8, 8, 8, 8, 8, 8, 8, 8, 8, 8, 8, 8, 8, 8, 8, 8, 8, 8, 8, 8, 8, 8, 8, 8, 8, 8, 8, 8, 8, 8, 8, 8, 8, 8, 8, 8, 8, 8, 8, 8, 8, 8, 8, 8, 8, 8, 8, 8, 8, 8, 8, 8, 8, 8, 8, 8]) x := by
    intro x hx
    have := tab_le x.toNat (by omega)
    rwa [Int.toNat_of_nonneg hx.1] at this
  have hs : (ByteArray.mk #[0, 1, 2, 2, 3, 3, 3, 3, 4, 4, 4, 4, 4, 4, 4, 4, 5, 5, 5, 5, 5, 5, 5, 5, 5, 5, 5, 5, 5, 5, 5, 5, 6, 6, 6, 6, 6, 6, 6, 6, 6, 6, 6, 6, 6, 6, 6, 6, 6, 6, 6, 6, 6, 6, 6, 6, 6, 6, 6, 6, 6, 6, 6, 6, 7, 7, 7, 7, 7, 7, 7, 7, 7, 7, 7, 7, 7, 7, 7, 7, 7, 7, 7, 7, 7, 7, 7, 7, 7, 7, 7, 7, 7, 7, 7, 7, 7, 7, 7, 7, 7, 7, 7, 7, 7, 7, 7, 7, 7, 7, 7, 7, 7, 7, 7, 7, 7, 7, 7, 7, 7, 7, 7, 7, 7, 7, 7, 7, 8, 8, 8, 8, 8, 8, 8, 8, 8, 8, 8, 8, 8, 8, 8, 8, 8, 8, 8, 8, 8, 8, 8, 8, 8, 8, 8, 8, 8, 8, 8, 8, 8, 8, 8, 8, 8, 8, 8, 8, 8, 8, 8, 8, 8, 8, 8, 8, 8, 8, 8, 8, 8, 8, 8, 8, 8, 8, 8, 8, 8, 8, 8, 8, 8, 8, 8, 8, 8, 8, 8, 8, 8, 8, 8, 8, 8, 8, 8, 8, 8, 8, 8, 8, 8, 8, 8, 8, 8, 8, 8, 8, 8, 8, 8, 8, 8, 8, 8, 8, 8, 8, 8, 8, 8, 8, 8, 8, 8, 8, 8, 8, 8, 8, 8, 8, 8, 8, 8, 8, 8, 8, 8, 8, 8, 8, 8, 8]).size = 256 := rfl
  simp only [F_math_bits_Len64, Wp_some, Wp_gd, Wp_cond, Wp_bd, Wp_bnd, Wp_bindE, Sum.elim_inl, Sum.elim_inr, condO, condA, decide_eq_true_eq, decide_eq_false_iff_not, Bool.or_eq_true, Bool.or_eq_false_iff, Bool.and_eq_true, Bool.and_eq_false_iff, Bool.not_eq_true', Bool.not_eq_false', bne_iff_ne, bne_eq_false_iff_eq, beq_iff_eq, beq_eq_false_iff_ne, true_and, and_true, Int.not_lt, Int.not_le, ne_eq, not_false_eq_true, implies_true, forall_const, gt_iff_lt, ge_iff_le]
  generalize (ByteArray.mk #[0, 1, 2, 2, 3, 3, 3, 3, 4, 4, 4, 4, 4, 4, 4, 4, 5, 5, 5, 5, 5, 5, 5, 5, 5, 5, 5, 5, 5, 5, 5, 5, 6, 6, 6, 6, 6, 6, 6, 6, 6, 6, 6, 6, 6, 6, 6, 6, 6, 6, 6, 6, 6, 6, 6, 6, 6, 6, 6, 6, 6, 6, 6, 6, 7, 7, 7, 7, 7, 7, 7, 7, 7, 7, 7, 7, 7, 7, 7, 7, 7, 7, 7, 7, 7, 7, 7, 7, 7, 7, 7, 7, 7, 7, 7, 7, 7, 7, 7, 7, 7, 7, 7, 7, 7, 7, 7, 7, 7, 7, 7, 7, 7, 7, 7, 7, 7, 7, 7, 7, 7, 7, 7, 7, 7, 7, 7, 7, 8, 8, 8, 8, 8, 8, 8, 8, 8, 8, 8, 8, 8, 8, 8, 8, 8, 8, 8, 8, 8, 8, 8, 8, 8, 8, 8, 8, 8, 8, 8, 8, 8, 8, 8, 8, 8, 8, 8, 8, 8, 8, 8, 8, 8, 8, 8, 8, 8, 8, 8, 8, 8, 8, 8, 8, 8, 8, 8, 8, 8, 8, 8, 8, 8, 8, 8, 8, 8, 8, 8, 8, 8, 8, 8, 8, 8, 8, 8, 8, 8, 8, 8, 8, 8, 8, 8, 8, 8, 8, 8, 8, 8, 8, 8, 8, 8, 8, 8, 8, 8, 8, 8, 8, 8, 8, 8, 8, 8, 8, 8, 8, 8, 8, 8, 8, 8, 8, 8, 8, 8, 8, 8, 8, 8, 8, 8, 8]) = tab at *
  rw [hs]
  rw [fdivE v 32 64 4294967296 rfl (by decide), fdivE v 16 64 65536 rfl (by decide), fdivE v 8 64 256 rfl (by decide), fdivE (v / 4294967296) 16 64 65536 rfl (by decide), fdivE (v / 4294967296) 8 64 256 rfl (by decide), fdivE (v / 65536) 8 64 256 rfl (by decide), fdivE (v / 4294967296 / 65536) 8 64 256 rfl (by decide)]
  have fin : ∀ x n : Int, 0 ≤ n ∧ n ≤ 56 → (0 ≤ IntKind.wrap .u8 x ∧ IntKind.wrap .u8 x < ((256 : Nat) : Int)) ∧ 0 ≤ IntKind.wrap .i64 (n + IntKind.wrap .i64 (bt tab (IntKind.wrap .u8 x))) ∧ IntKind.wrap .i64 (n + IntKind.wrap .i64 (bt tab (IntKind.wrap .u8 x))) ≤ 64 := by
    intro x n hn
    have h1 : 0 ≤ IntKind.wrap .u8 x ∧ IntKind.wrap .u8 x < 256 := by
      rw [wU8]
      omega
    have h2 := step _ h1
    rw [w64 (x := bt tab _) (by omega), w64 (x := n + _) (by omega)]
    omega
  have e1 : IntKind.wrap .i64 (32 + 16) = 48 := by decide
  have e2 : IntKind.wrap .i64 (0 + 16) = 16 := by decide
  have e3 : IntKind.wrap .i64 (48 + 8) = 56 := by decide
  have e4 : IntKind.wrap .i64 (32 + 8) = 40 := by decide
  have e5 : IntKind.wrap .i64 (16 + 8) = 24 := by decide
  have e6 : IntKind.wrap .i64 (0 + 8) = 8 := by decide
  rw [e1, e2, e3, e4, e5, e6]
  refine ⟨fun _ => ⟨fun _ => ⟨fun _ => ?_, fun _ => ?_⟩, fun _ => ⟨fun _ => ?_, fun _ => ?_⟩⟩, fun _ => ⟨fun _ => ⟨fun _ => ?_, fun _ => ?_⟩, fun _ => ⟨fun _ => ?_, fun _ => ?_⟩⟩⟩
  all_goals exact fin _ _ (by decide)

theorem pack_W {b l : List Int} (hb : b.length ≤ 70000000000000) (hl : l.length ≤ 16384) : Wp (F_r24_pack b l) fun r => r.length ≤ b.length + 12 + 8 * l.length ∧ b.length ≤ r.length := by
  simp only [F_r24_pack, Wp_some, Wp_gd, Wp_cond, Wp_bd, Wp_bnd, Wp_bindE, Sum.elim_inl, Sum.elim_inr, condO, condA, decide_eq_true_eq, decide_eq_false_iff_not, Bool.or_eq_true, Bool.or_eq_false_iff, Bool.and_eq_true, Bool.and_eq_false_iff, Bool.not_eq_true', Bool.not_eq_false', bne_iff_ne, bne_eq_false_iff_eq, beq_iff_eq, beq_eq_false_iff_ne, true_and, and_true, Int.not_lt, Int.not_le, ne_eq, not_false_eq_true, implies_true, forall_const, gt_iff_lt, ge_iff_le, List.length_append, List.length_cons, List.length_nil, List.length_replicate]
  refine ⟨fun h => by omega, fun _ => ?_⟩
  refine (Bounds_W (by omega)).mono fun r1 _ => ?_
  refine (Len64_W (wU64_range _)).mono fun r2 h2 => ?_
  refine (PutInt_W (by omega)).mono fun r3 h3 => ?_
  have hT : 0 ≤ (l.length : Int) * r2 ∧ (l.length : Int) * r2 ≤ 16384 * 64 := ⟨Int.mul_nonneg (by omega) h2.1, Int.mul_le_mul (by omega) h2.2 h2.1 (by decide)⟩
  have hT2 : (l.length : Int) * r2 ≤ (l.length : Int) * 64 := Int.mul_le_mul_of_nonneg_left h2.2 (by omega)
  have hstep : ∀ i : Int, 0 ≤ i → i < (l.length : Int) → i * r2 + r2 ≤ (l.length : Int) * r2 := by
    intro i _ hi
    have := Int.mul_le_mul_of_nonneg_right (show i + 1 ≤ (l.length : Int) by omega) h2.1
    rw [Int.add_mul, Int.one_mul] at this
    exact this
  generalize hTT : (l.length : Int) * r2 = T at *
  rw [w64 (x := T) (by omega), w64 (x := T + 7) (by omega), Int.tdiv_eq_ediv_of_nonneg (by omega), w64 (x := (T + 7) / 8) (by omega)]
  refine ⟨by omega, by omega, by omega, ?_⟩
  refine Wp_loop (fun j => 0 ≤ j.2.1 ∧ j.2.1 ≤ (l.length : Int) ∧ j.1 = j.2.1 * r2 ∧ j.2.2.length = ((T + 7) / 8).toNat) (fun j => ((l.length : Int) - j.2.1).toNat) ⟨Int.le_refl _, by show (0 : Int) ≤ _; omega, by simp, by simp⟩ ?_
  rintro ⟨a, i, x⟩ ⟨k1, k2, k3, k4⟩
  dsimp only at k1 k2 k3 k4
  subst k3
  simp only [L_r24_pack_2, Wp_some, Wp_gd, Wp_cond, Wp_bd, Wp_bnd, Wp_bindE, Sum.elim_inl, Sum.elim_inr, condO, condA, decide_eq_true_eq, decide_eq_false_iff_not, Bool.or_eq_true, Bool.or_eq_false_iff, Bool.and_eq_true, Bool.and_eq_false_iff, Bool.not_eq_true', Bool.not_eq_false', bne_iff_ne, bne_eq_false_iff_eq, beq_iff_eq, beq_eq_false_iff_ne, true_and, and_true, Int.not_lt, Int.not_le, ne_eq, not_false_eq_true, implies_true, forall_const, gt_iff_lt, ge_iff_le]
  refine ⟨fun hi => ⟨⟨k1, hi⟩, ?_⟩, fun hi => by omega⟩
  have hs := hstep i k1 hi
  have h0 : 0 ≤ i * r2 := Int.mul_nonneg k1 h2.1
  rw [w64 (x := i + 1) (by omega)]
  refine Wp_loop (fun j => 0 ≤ j.2.1 ∧ j.2.1 ≤ r2 ∧ j.1 = i * r2 + j.2.1 ∧ j.2.2.length = ((T + 7) / 8).toNat) (fun j => (r2 - j.2.1).toNat) ⟨Int.le_refl _, h2.1, by simp, k4⟩ ?_
  rintro ⟨a, k, x⟩ ⟨q1, q2, q3, q4⟩
  dsimp only at q1 q2 q3 q4
  simp only [L_r24_pack_4, Wp_some, Wp_gd, Wp_cond, Wp_bd, Wp_bnd, Wp_bindE, Sum.elim_inl, Sum.elim_inr, condO, condA, decide_eq_true_eq, decide_eq_false_iff_not, Bool.or_eq_true, Bool.or_eq_false_iff, Bool.and_eq_true, Bool.and_eq_false_iff, Bool.not_eq_true', Bool.not_eq_false', bne_iff_ne, bne_eq_false_iff_eq, beq_iff_eq, beq_eq_false_iff_ne, true_and, and_true, Int.not_lt, Int.not_le, ne_eq, not_false_eq_true, implies_true, forall_const, gt_iff_lt, ge_iff_le, List.length_set]
  rw [w64 (x := a + 1) (by omega), w64 (x := k + 1) (by omega), Int.tdiv_eq_ediv_of_nonneg (by omega), w64 (x := a / 8) (by omega), Int.tmod_eq_emod_of_nonneg (by omega)]
  refine ⟨fun hk => ⟨q1, fun _ => ⟨by omega, by omega, by omega⟩, fun _ => by omega⟩, fun hk => ?_⟩
  refine ⟨⟨by omega, by omega, ?_, q4⟩, by omega⟩
  have : k = r2 := by omega
  rw [q3, this, Int.add_mul, Int.one_mul]
end Go.Abs
