/- DERIVED. Plain laws, part 13: both checksums and both summaries of a segment are the same. -/
import Derived.Test.YtlhiaclmbegaiaaGreatP12
set_option linter.unusedVariables false
set_option linter.unusedSimpArgs false
namespace Go.Abs
open Go
set_option maxRecDepth 100000

/-! ### The checksum -/
def cBit (c : Int) : Nat := (BitVec.ofInt 32 c &&& BitVec.ofInt 32 1).toNat
theorem cBit_le (c : Int) : cBit c ≤ 1 := by
  unfold cBit
  rw [BitVec.toNat_and, show (BitVec.ofInt 32 1).toNat = 1 from rfl, Nat.and_one_is_mod]
  omega
def cs (c : Int) : Int := if IntKind.wrap .u32 (cBit c : Int) = 1 then IntKind.wrap .u32 ((BitVec.ofInt 32 (c / 2) ^^^ BitVec.ofInt 32 3988292384).toNat : Int) else c / 2
def U32 (c : Int) : Prop := 0 ≤ c ∧ c < 4294967296
theorem wU32_U (x : Int) : U32 (IntKind.wrap .u32 x) := by
  unfold U32
  rw [wU32]
  omega
theorem cs_U {c : Int} (h : U32 c) : U32 (cs c) := by
  unfold cs
  split
  · exact wU32_U _
  · unfold U32 at *
    omega
theorem cs_seg {c : Int} (h : U32 c) : IntKind.wrap .u32 ((BitVec.ofInt 32 (c / 2) ^^^ BitVec.ofInt 32 (IntKind.wrap .u32 ((BitVec.ofInt 32 3988292384 &&& BitVec.ofInt 32 (IntKind.wrap .u32 (0 - (IntKind.wrap .u32 (cBit c : Int))))).toNat : Int))).toNat : Int) = cs c := by
  unfold cs
  have hb : cBit c = 0 ∨ cBit c = 1 := by have := cBit_le c; omega
  rcases hb with hb | hb
  · rw [hb]
    have e1 : IntKind.wrap .u32 ((BitVec.ofInt 32 3988292384 &&& BitVec.ofInt 32 (IntKind.wrap .u32 (0 - (IntKind.wrap .u32 ((0 : Nat) : Int))))).toNat : Int) = 0 := by decide
    have e2 : ¬ IntKind.wrap .u32 ((0 : Nat) : Int) = 1 := by decide
    rw [e1, if_neg e2, show BitVec.ofInt 32 0 = 0#32 from rfl, BitVec.xor_zero, BitVec.toNat_ofInt]
    unfold U32 at h
    have : (c / 2 % ((2 ^ 32 : Nat) : Int)) = c / 2 := by omega
    rw [this, wU32]
    omega
  · rw [hb]
    have e1 : IntKind.wrap .u32 ((BitVec.ofInt 32 3988292384 &&& BitVec.ofInt 32 (IntKind.wrap .u32 (0 - (IntKind.wrap .u32 ((1 : Nat) : Int))))).toNat : Int) = 3988292384 := by decide
    have e2 : IntKind.wrap .u32 ((1 : Nat) : Int) = 1 := by decide
    rw [e1, if_pos e2]
def itc : Nat → Int → Int
  | 0, c => c
  | n + 1, c => cs (itc n c)
theorem itc_U {c : Int} (h : U32 c) : ∀ n, U32 (itc n c)
  | 0 => h
  | n + 1 => cs_U (itc_U h n)
def cv (c v : Int) : Int := IntKind.wrap .u32 ((BitVec.ofInt 32 c ^^^ BitVec.ofInt 32 (IntKind.wrap .u32 v)).toNat : Int)
def crcR (l : List Int) : Int := l.foldl (fun c v => itc 8 (cv c v)) 4294967295
def crcF (l : List Int) : Int := IntKind.wrap .u32 ((BitVec.ofInt 32 4294967295 ^^^ BitVec.ofInt 32 (crcR l)).toNat : Int)
theorem crcR_snoc (l : List Int) (v : Int) : crcR (l ++ [v]) = itc 8 (cv (crcR l) v) := by
  unfold crcR
  rw [List.foldl_append]
  rfl

theorem rCrc_W {l : List Int} (hl : l.length ≤ 1099511627776) : F_r27_Crc l = some (crcF l) := by
  refine Wp.eq ?_
  simp only [F_r27_Crc, Wp_some, Wp_gd, Wp_cond, Wp_bd, Wp_bnd, Wp_bindE, Sum.elim_inl, Sum.elim_inr, condO, condA, decide_eq_true_eq, decide_eq_false_iff_not, Bool.or_eq_true, Bool.or_eq_false_iff, Bool.and_eq_true, Bool.and_eq_false_iff, Bool.not_eq_true', Bool.not_eq_false', bne_iff_ne, bne_eq_false_iff_eq, beq_iff_eq, beq_eq_false_iff_ne, true_and, and_true, Int.not_lt, Int.not_le, ne_eq, not_false_eq_true, implies_true, forall_const, gt_iff_lt, ge_iff_le]
  refine Wp_loop (fun j => 0 ≤ j.2 ∧ j.2 ≤ (l.length : Int) ∧ j.1 = crcR (l.take j.2.toNat)) (fun j => ((l.length : Int) - j.2).toNat) ⟨Int.le_refl _, by show (0 : Int) ≤ _; omega, rfl⟩ ?_
  rintro ⟨c, i⟩ ⟨k1, k2, k3⟩
  dsimp only at k1 k2 k3
  subst k3
  simp only [L_r27_Crc_2, Wp_some, Wp_gd, Wp_cond, Wp_bd, Wp_bnd, Wp_bindE, Sum.elim_inl, Sum.elim_inr, condO, condA, decide_eq_true_eq, decide_eq_false_iff_not, Bool.or_eq_true, Bool.or_eq_false_iff, Bool.and_eq_true, Bool.and_eq_false_iff, Bool.not_eq_true', Bool.not_eq_false', bne_iff_ne, bne_eq_false_iff_eq, beq_iff_eq, beq_eq_false_iff_ne, true_and, and_true, Int.not_lt, Int.not_le, ne_eq, not_false_eq_true, implies_true, forall_const, gt_iff_lt, ge_iff_le]
  rw [w64 (x := i + 1) (by omega)]
  refine ⟨fun hi => ⟨⟨k1, hi⟩, ?_⟩, fun hi => by rw [List.take_of_length_le (by omega)]; rfl⟩
  have hU : U32 (cv (crcR (l.take i.toNat)) (l.getD i.toNat default)) := wU32_U _
  refine Wp_loop (fun j => 0 ≤ j.2 ∧ j.2 ≤ 8 ∧ j.1 = itc j.2.toNat (cv (crcR (l.take i.toNat)) (l.getD i.toNat default))) (fun j => (8 - j.2).toNat) ⟨Int.le_refl _, by show (0 : Int) ≤ 8; decide, rfl⟩ ?_
  rintro ⟨c, k⟩ ⟨q1, q2, q3⟩
  dsimp only at q1 q2 q3
  subst q3
  simp only [L_r27_Crc_4, Wp_some, Wp_gd, Wp_cond, Wp_bd, Wp_bnd, Wp_bindE, Sum.elim_inl, Sum.elim_inr, condO, condA, decide_eq_true_eq, decide_eq_false_iff_not, Bool.or_eq_true, Bool.or_eq_false_iff, Bool.and_eq_true, Bool.and_eq_false_iff, Bool.not_eq_true', Bool.not_eq_false', bne_iff_ne, bne_eq_false_iff_eq, beq_iff_eq, beq_eq_false_iff_ne, true_and, and_true, Int.not_lt, Int.not_le, ne_eq, not_false_eq_true, implies_true, forall_const, gt_iff_lt, ge_iff_le]
  rw [w64 (x := k + 1) (by omega), fdivE _ 1 32 2 rfl (by decide)]
  have hs : itc (k + 1).toNat (cv (crcR (l.take i.toNat)) (l.getD i.toNat default)) = cs (itc k.toNat (cv (crcR (l.take i.toNat)) (l.getD i.toNat default))) := by
    rw [show (k + 1).toNat = k.toNat + 1 by omega]
    rfl
  refine ⟨fun hk => ⟨fun hb => ⟨⟨by omega, by omega, ?_⟩, by omega⟩, fun hb => ⟨⟨by omega, by omega, ?_⟩, by omega⟩⟩, fun hk => ⟨⟨by omega, by omega, ?_⟩, by omega⟩⟩
  · rw [hs]
    unfold cs
    exact (if_pos hb).symm
  · rw [hs]
    unfold cs
    exact (if_neg hb).symm
  · have : k = 8 := by omega
    subst this
    rw [take_getD (d := default) ⟨k1, hi⟩, crcR_snoc]
    rfl

theorem sCrc_W {l : List Int} (hl : l.length ≤ 1099511627776) : F_segment_Crc l = some (crcF l) := by
  refine Wp.eq ?_
  simp only [F_segment_Crc, Wp_some, Wp_gd, Wp_cond, Wp_bd, Wp_bnd, Wp_bindE, Sum.elim_inl, Sum.elim_inr, condO, condA, decide_eq_true_eq, decide_eq_false_iff_not, Bool.or_eq_true, Bool.or_eq_false_iff, Bool.and_eq_true, Bool.and_eq_false_iff, Bool.not_eq_true', Bool.not_eq_false', bne_iff_ne, bne_eq_false_iff_eq, beq_iff_eq, beq_eq_false_iff_ne, true_and, and_true, Int.not_lt, Int.not_le, ne_eq, not_false_eq_true, implies_true, forall_const, gt_iff_lt, ge_iff_le]
  refine Wp_loop (fun j => 0 ≤ j.2 ∧ j.2 ≤ (l.length : Int) ∧ j.1 = crcR (l.take j.2.toNat)) (fun j => ((l.length : Int) - j.2).toNat) ⟨Int.le_refl _, by show (0 : Int) ≤ _; omega, rfl⟩ ?_
  rintro ⟨c, i⟩ ⟨k1, k2, k3⟩
  dsimp only at k1 k2 k3
  subst k3
  simp only [L_segment_Crc_2, Wp_some, Wp_gd, Wp_cond, Wp_bd, Wp_bnd, Wp_bindE, Sum.elim_inl, Sum.elim_inr, condO, condA, decide_eq_true_eq, decide_eq_false_iff_not, Bool.or_eq_true, Bool.or_eq_false_iff, Bool.and_eq_true, Bool.and_eq_false_iff, Bool.not_eq_true', Bool.not_eq_false', bne_iff_ne, bne_eq_false_iff_eq, beq_iff_eq, beq_eq_false_iff_ne, true_and, and_true, Int.not_lt, Int.not_le, ne_eq, not_false_eq_true, implies_true, forall_const, gt_iff_lt, ge_iff_le]
  rw [w64 (x := i + 1) (by omega)]
  refine ⟨fun hi => ⟨⟨k1, hi⟩, ?_⟩, fun hi => by rw [List.take_of_length_le (by omega)]; rfl⟩
  have hU : U32 (cv (crcR (l.take i.toNat)) (l.getD i.toNat default)) := wU32_U _
  refine Wp_loop (fun j => 0 ≤ j.2 ∧ j.2 ≤ 8 ∧ j.1 = itc j.2.toNat (cv (crcR (l.take i.toNat)) (l.getD i.toNat default))) (fun j => (8 - j.2).toNat) ⟨Int.le_refl _, by show (0 : Int) ≤ 8; decide, rfl⟩ ?_
  rintro ⟨c, k⟩ ⟨q1, q2, q3⟩
  dsimp only at q1 q2 q3
  subst q3
  simp only [L_segment_Crc_4, Wp_some, Wp_gd, Wp_cond, Wp_bd, Wp_bnd, Wp_bindE, Sum.elim_inl, Sum.elim_inr, condO, condA, decide_eq_true_eq, decide_eq_false_iff_not, Bool.or_eq_true, Bool.or_eq_false_iff, Bool.and_eq_true, Bool.and_eq_false_iff, Bool.not_eq_true', Bool.not_eq_false', bne_iff_ne, bne_eq_false_iff_eq, beq_iff_eq, beq_eq_false_iff_ne, true_and, and_true, Int.not_lt, Int.not_le, ne_eq, not_false_eq_true, implies_true, forall_const, gt_iff_lt, ge_iff_le]
  rw [w64 (x := k + 1) (by omega), fdivE _ 1 32 2 rfl (by decide)]
  have hs : itc (k + 1).toNat (cv (crcR (l.take i.toNat)) (l.getD i.toNat default)) = cs (itc k.toNat (cv (crcR (l.take i.toNat)) (l.getD i.toNat default))) := by
    rw [show (k + 1).toNat = k.toNat + 1 by omega]
    rfl
  refine ⟨fun hk => ⟨⟨by omega, by omega, ?_⟩, by omega⟩, fun hk => ⟨⟨by omega, by omega, ?_⟩, by omega⟩⟩
  · rw [hs]
    exact cs_seg (itc_U hU _)
  · have : k = 8 := by omega
    subst this
    rw [take_getD (d := default) ⟨k1, hi⟩, crcR_snoc]
    rfl

/-! ### Numbers -/
def gStep (v b : Int) : Int := IntKind.wrap .u64 ((BitVec.ofInt 64 (IntKind.wrap .u64 (v * 2 ^ (min (Int.toNat 8) 64))) ||| BitVec.ofInt 64 (IntKind.wrap .u64 b)).toNat : Int)
def gnum (l : List Int) : Int := l.foldl gStep 0
theorem gnum_snoc (l : List Int) (v : Int) : gnum (l ++ [v]) = gStep (gnum l) v := by
  unfold gnum
  rw [List.foldl_append]
  rfl
theorem Get27_W {l : List Int} (hl : l.length ≤ 1099511627776) : F_r27_Get l = some (gnum l) := by
  refine Wp.eq ?_
  simp only [F_r27_Get, Wp_some, Wp_gd, Wp_cond, Wp_bd, Wp_bnd, Wp_bindE, Sum.elim_inl, Sum.elim_inr, condO, condA, decide_eq_true_eq, decide_eq_false_iff_not, Bool.or_eq_true, Bool.or_eq_false_iff, Bool.and_eq_true, Bool.and_eq_false_iff, Bool.not_eq_true', Bool.not_eq_false', bne_iff_ne, bne_eq_false_iff_eq, beq_iff_eq, beq_eq_false_iff_ne, true_and, and_true, Int.not_lt, Int.not_le, ne_eq, not_false_eq_true, implies_true, forall_const, gt_iff_lt, ge_iff_le]
  refine Wp_loop (fun j => 0 ≤ j.2 ∧ j.2 ≤ (l.length : Int) ∧ j.1 = gnum (l.take j.2.toNat)) (fun j => ((l.length : Int) - j.2).toNat) ⟨Int.le_refl _, by show (0 : Int) ≤ _; omega, rfl⟩ ?_
  rintro ⟨c, i⟩ ⟨k1, k2, k3⟩
  dsimp only at k1 k2 k3
  subst k3
  simp only [L_r27_Get_2, Wp_some, Wp_gd, Wp_cond, Wp_bd, Wp_bnd, Wp_bindE, Sum.elim_inl, Sum.elim_inr, condO, condA, decide_eq_true_eq, decide_eq_false_iff_not, Bool.or_eq_true, Bool.or_eq_false_iff, Bool.and_eq_true, Bool.and_eq_false_iff, Bool.not_eq_true', Bool.not_eq_false', bne_iff_ne, bne_eq_false_iff_eq, beq_iff_eq, beq_eq_false_iff_ne, true_and, and_true, Int.not_lt, Int.not_le, ne_eq, not_false_eq_true, implies_true, forall_const, gt_iff_lt, ge_iff_le]
  rw [w64 (x := i + 1) (by omega)]
  refine ⟨fun hi => ⟨⟨k1, hi⟩, ⟨by omega, by omega, ?_⟩, by omega⟩, fun hi => by rw [List.take_of_length_le (by omega)]⟩
  rw [take_getD (d := default) ⟨k1, hi⟩, gnum_snoc]
  rfl
theorem gStep_lt {v b : Int} {k : Nat} (hv : 0 ≤ v ∧ v < 2 ^ k) (hb : byte b) (hk : k + 8 ≤ 64) : 0 ≤ gStep v b ∧ gStep v b < 2 ^ (k + 8) := by
  unfold byte at hb
  have e8 : (2 : Int) ^ (min (Int.toNat 8) 64) = 256 := rfl
  have hp : (2 : Int) ^ (k + 8) = 2 ^ k * 256 := by rw [Int.pow_add]; rfl
  have hp64 : (2 : Int) ^ (k + 8) ≤ 2 ^ 64 := by
    have := Nat.pow_le_pow_right (show 0 < 2 by decide) hk
    exact_mod_cast this
  unfold gStep
  rw [e8]
  have h1 : 0 ≤ v * 256 ∧ v * 256 < 2 ^ (k + 8) := by
    rw [hp]
    omega
  have e1 : IntKind.wrap .u64 (v * 256) = v * 256 := by
    rw [wU64]
    omega
  have e2 : IntKind.wrap .u64 b = b := by
    rw [wU64]
    omega
  rw [e1, e2, BitVec.toNat_or, BitVec.toNat_ofInt, BitVec.toNat_ofInt]
  have n1 : (v * 256 % ((2 ^ 64 : Nat) : Int)).toNat < 2 ^ (k + 8) := by
    have : v * 256 % ((2 ^ 64 : Nat) : Int) = v * 256 := by omega
    rw [this]
    have := h1.2
    have q : ((2 ^ (k + 8) : Nat) : Int) = 2 ^ (k + 8) := by norm_cast
    omega
  have h256 : (256 : Nat) ≤ 2 ^ (k + 8) := by
    have := Nat.pow_le_pow_right (show 0 < 2 by decide) (show 8 ≤ k + 8 by omega)
    exact this
  have n2 : (b % ((2 ^ 64 : Nat) : Int)).toNat < 2 ^ (k + 8) := by
    have : b % ((2 ^ 64 : Nat) : Int) = b := by omega
    rw [this]
    omega
  have n3 := Nat.or_lt_two_pow n1 n2
  have q : ((2 ^ (k + 8) : Nat) : Int) = 2 ^ (k + 8) := by norm_cast
  have n4 : (2 ^ (k + 8) : Nat) ≤ 2 ^ 64 := Nat.pow_le_pow_right (by decide) hk
  rw [wU64]
  rw [← q]
  have e64 : (2 ^ 64 : Nat) = 18446744073709551616 := rfl
  rw [e64] at n4
  generalize (v * 256 % ((2 ^ 64 : Nat) : Int)).toNat ||| (b % ((2 ^ 64 : Nat) : Int)).toNat = z at *
  generalize (2 ^ (k + 8) : Nat) = y at *
  omega
theorem gnum4 {l : List Int} (hl : l.length = 4) (hb : ∀ x ∈ l, byte x) : 0 ≤ gnum l ∧ gnum l < 4294967296 := by
  match l, hl with
  | [a, b, c, d], _ =>
    have h0 : 0 ≤ (0 : Int) ∧ (0 : Int) < 2 ^ 0 := by decide
    have h1 := gStep_lt (k := 0) h0 (hb a (by simp)) (by decide)
    have h2 := gStep_lt (k := 8) h1 (hb b (by simp)) (by decide)
    have h3 := gStep_lt (k := 16) h2 (hb c (by simp)) (by decide)
    exact gStep_lt (k := 24) h3 (hb d (by simp)) (by decide)

theorem sub_eq {α : Type} {l : List α} {a b : Int} : sub l a b = (l.drop a.toNat).take (b.toNat - a.toNat) := by
  unfold sub
  rw [List.drop_take]

theorem fixed_W {c : S_segment_cursor} {n : Int} (h : 0 ≤ n ∧ n ≤ (c.x_b.length : Int)) (hn : n ≤ 1000) : F_segment_cursor_fixed c n = some (gnum (c.x_b.take n.toNat), { c with x_b := c.x_b.drop n.toNat }) := by
  refine Wp.eq ?_
  simp only [F_segment_cursor_fixed, F_segment_cursor_take, Wp_some, Wp_gd, Wp_cond, Wp_bd, Wp_bnd, Wp_bindE, Sum.elim_inl, Sum.elim_inr, condO, condA, decide_eq_true_eq, decide_eq_false_iff_not, Bool.or_eq_true, Bool.or_eq_false_iff, Bool.and_eq_true, Bool.and_eq_false_iff, Bool.not_eq_true', Bool.not_eq_false', bne_iff_ne, bne_eq_false_iff_eq, beq_iff_eq, beq_eq_false_iff_ne, true_and, and_true, Int.not_lt, Int.not_le, ne_eq, not_false_eq_true, implies_true, forall_const, gt_iff_lt, ge_iff_le, sub_take, sub_drop]
  refine ⟨fun q => by omega, fun _ => ⟨by omega, by omega, ?_⟩⟩
  have hl : (c.x_b.take n.toNat).length = n.toNat := by simp; omega
  refine Wp_loop (fun j => 0 ≤ j.2 ∧ j.2 ≤ n ∧ j.1 = gnum ((c.x_b.take n.toNat).take j.2.toNat)) (fun j => (n - j.2).toNat) ⟨Int.le_refl _, h.1, rfl⟩ ?_
  rintro ⟨v, i⟩ ⟨k1, k2, k3⟩
  dsimp only at k1 k2 k3
  subst k3
  simp only [L_segment_cursor_fixed_2, Wp_some, Wp_gd, Wp_cond, Wp_bd, Wp_bnd, Wp_bindE, Sum.elim_inl, Sum.elim_inr, condO, condA, decide_eq_true_eq, decide_eq_false_iff_not, Bool.or_eq_true, Bool.or_eq_false_iff, Bool.and_eq_true, Bool.and_eq_false_iff, Bool.not_eq_true', Bool.not_eq_false', bne_iff_ne, bne_eq_false_iff_eq, beq_iff_eq, beq_eq_false_iff_ne, true_and, and_true, Int.not_lt, Int.not_le, ne_eq, not_false_eq_true, implies_true, forall_const, gt_iff_lt, ge_iff_le]
  rw [w64 (x := i + 1) (by omega)]
  refine ⟨fun hi => ⟨⟨k1, hi⟩, ⟨by omega, by omega, ?_⟩, by omega⟩, fun hi => by rw [List.take_of_length_le (by omega)]⟩
  rw [take_getD (d := default) ⟨k1, hi⟩, gnum_snoc]
  rfl

/-! ### The summary of a segment -/
def mg (d : List Int) : Bool := (strOf (d.take 4).length fun i => (d.take 4).getD i default).toList == (ByteArray.mk #[76, 84, 83, 49]).toList
def secLen (d : List Int) (k : Nat) : Int := IntKind.wrap .i64 (gnum ((d.drop (24 + 8 * k)).take 4))
def tot (d : List Int) : Nat → Int
  | 0 => 124
  | k + 1 => IntKind.wrap .i64 (tot d k + secLen d k)
def sErr (d : List Int) : Int :=
  if (d.length : Int) < 124 then 14 else if mg d = false then 1 else if gnum ((d.drop 120).take 4) ≠ crcF (d.take 120) then 15 else if (d.length : Int) ≠ tot d 12 then 14 else 0

theorem crcF_U (l : List Int) : U32 (crcF l) := wU32_U _

theorem secG {d : List Int} {k : Nat} (hk : k ≤ 11) (hd : 124 ≤ d.length) : F_r27_Get (sub d (24 + 8 * (k : Int)) (28 + 8 * (k : Int))) = some (gnum ((d.drop (24 + 8 * k)).take 4)) := by
  rw [sub_eq, show (24 + 8 * (k : Int)).toNat = 24 + 8 * k by omega, show (28 + 8 * (k : Int)).toNat - (24 + 8 * k) = 4 by omega]
  exact Get27_W (by simp; omega)

theorem place27_W {d : List Int} (hd : 124 ≤ d.length) (hl : d.length ≤ 2199023255552) : F_r27_place d 12 = some (tot d 11, secLen d 11) := by
  refine Wp.eq ?_
  unfold F_r27_place
  rw [Wp_bindE]
  refine Wp_loop (fun j => 1 ≤ j.2 ∧ j.2 ≤ 12 ∧ j.1 = tot d (j.2 - 1).toNat) (fun j => (12 - j.2).toNat) ⟨Int.le_refl _, by show (1 : Int) ≤ 12; decide, rfl⟩ ?_
  rintro ⟨a, k⟩ ⟨k1, k2, k3⟩
  dsimp only at k1 k2 k3
  subst k3
  simp only [L_r27_place_2, Wp_some, Wp_gd, Wp_cond, Wp_bd, Wp_bnd, Wp_bindE, Sum.elim_inl, Sum.elim_inr, condO, condA, decide_eq_true_eq, decide_eq_false_iff_not, Bool.or_eq_true, Bool.or_eq_false_iff, Bool.and_eq_true, Bool.and_eq_false_iff, Bool.not_eq_true', Bool.not_eq_false', bne_iff_ne, bne_eq_false_iff_eq, beq_iff_eq, beq_eq_false_iff_ne, true_and, and_true, Int.not_lt, Int.not_le, ne_eq, not_false_eq_true, implies_true, forall_const, gt_iff_lt, ge_iff_le]
  rw [w64 (x := 8 * k) (by omega), w64 (x := 16 + 8 * k) (by omega), w64 (x := 20 + 8 * k) (by omega), w64 (x := k + 1) (by omega)]
  refine ⟨fun hk => ⟨by omega, ?_⟩, fun hk => ?_⟩
  · have e := secG (d := d) (k := (k - 1).toNat) (by omega) hd
    rw [show 24 + 8 * ((k - 1).toNat : Int) = 16 + 8 * k by omega, show 28 + 8 * ((k - 1).toNat : Int) = 20 + 8 * k by omega] at e
    rw [e, Wp_some]
    refine ⟨⟨by omega, by omega, ?_⟩, by omega⟩
    show _ = tot d (k + 1 - 1).toNat
    rw [show (k + 1 - 1).toNat = (k - 1).toNat + 1 by omega]
    rfl
  · have : k = 12 := by omega
    subst this
    have e1 : IntKind.wrap .i64 (16 + IntKind.wrap .i64 (8 * 12)) = 112 := by decide
    have e2 : IntKind.wrap .i64 (20 + IntKind.wrap .i64 (8 * 12)) = 116 := by decide
    rw [e1, e2]
    have e := secG (d := d) (k := 11) (by decide) hd
    rw [show (24 + 8 * ((11 : Nat) : Int)) = 112 from rfl, show (28 + 8 * ((11 : Nat) : Int)) = 116 from rfl] at e
    rw [e, Wp_some]
    exact ⟨by omega, rfl⟩

theorem rSummary_W {d : List Int} (hd : d.length ≤ 2199023255552) : Wp (F_r27_Summary d) fun r => r.2 = sErr d := by
  unfold F_r27_Summary
  rw [Wp_cond]
  refine ⟨fun h => ?_, fun h => ?_⟩
  · rw [Wp_some]
    unfold sErr
    rw [if_pos (of_decide_eq_true h)]
  have h := of_decide_eq_false h
  have hg : ∀ a b : Int, 0 ≤ a → b ≤ 1000 → F_r27_Get (sub d a b) = some (gnum ((d.drop a.toNat).take (b.toNat - a.toNat))) := by
    intro a b _ _
    rw [sub_eq]
    exact Get27_W (by simp; omega)
  rw [Wp_gd, Wp_bd, Wp_cond]
  refine ⟨by omega, fun q => ?_, fun q => ?_⟩
  · rw [Wp_some]
    have q : mg d = false := by
      rw [sub_take] at q
      simpa [mg] using q
    unfold sErr
    rw [if_neg h, if_pos q]
  have q : ¬ mg d = false := by
    rw [sub_take] at q
    have q' : (!mg d) = false := q
    intro z
    rw [z] at q'
    cases q'
  rw [Wp_gd, Wp_bnd, hg 120 124 (by decide) (by decide), Wp_some, Wp_gd, Wp_bnd, sub_take, rCrc_W (by simp; omega), Wp_some, Wp_cond]
  have hc : IntKind.wrap .u64 (crcF (d.take (Int.toNat 120))) = crcF (d.take 120) := by
    have := crcF_U (d.take 120)
    unfold U32 at this
    rw [wU64]
    show crcF (d.take 120) % _ = _
    omega
  rw [hc]
  have e4 : Int.toNat 124 - Int.toNat 120 = 4 := rfl
  have e120 : Int.toNat 120 = 120 := rfl
  rw [e4, e120]
  refine ⟨by omega, by omega, fun z => ?_, fun z => ?_⟩
  · rw [Wp_some]
    unfold sErr
    rw [if_neg h, if_neg q, if_pos (by simpa using z)]
  have z : ¬ gnum ((d.drop 120).take 4) ≠ crcF (d.take 120) := by simpa using z
  rw [Wp_bnd, place27_W (by omega) hd, Wp_some, Wp_cond]
  refine ⟨fun w => ?_, fun w => ?_⟩
  · rw [Wp_some]
    have w : (d.length : Int) ≠ tot d 12 := by simpa [tot] using w
    unfold sErr
    rw [if_neg h, if_neg q, if_neg z, if_pos w]
  have w : ¬ (d.length : Int) ≠ tot d 12 := by simpa [tot] using w
  rw [Wp_gd, Wp_bnd, hg 4 8 (by decide) (by decide), Wp_some, Wp_gd, Wp_bnd, hg 8 16 (by decide) (by decide), Wp_some, Wp_gd, Wp_bnd, hg 16 24 (by decide) (by decide), Wp_some, Wp_bd, Wp_some]
  refine ⟨by omega, by omega, by omega, ?_⟩
  unfold sErr
  rw [if_neg h, if_neg q, if_neg z, if_neg w]

theorem parse_W {d : List Int} (hd : d.length ≤ 2199023255552) (hb : ∀ x ∈ d.take 124, byte x) : Wp (F_segment_parse d) fun r => r.2.2 = sErr d := by
  unfold F_segment_parse
  rw [Wp_cond]
  refine ⟨fun h => ?_, fun h => ?_⟩
  · rw [Wp_some]
    unfold sErr
    rw [if_pos (of_decide_eq_true h)]
  have h := of_decide_eq_false h
  rw [Wp_gd, Wp_bd, Wp_cond]
  refine ⟨by omega, fun q => ?_, fun q => ?_⟩
  · rw [Wp_some]
    have q : mg d = false := by
      rw [sub_take] at q
      simpa [mg] using q
    unfold sErr
    rw [if_neg h, if_pos q]
  have q : ¬ mg d = false := by
    rw [sub_take] at q
    have q' : (!mg d) = false := q
    intro z
    rw [z] at q'
    cases q'
  rw [Wp_gd, sub_drop, show Int.toNat 4 = 4 from rfl]
  refine ⟨by omega, ?_⟩
  have fx : ∀ (o : Nat) (n : Int), 0 ≤ n → n ≤ 8 → (o : Int) + n ≤ (d.length : Int) → F_segment_cursor_fixed ⟨d.drop o, false⟩ n = some (gnum ((d.drop o).take n.toNat), ⟨d.drop (o + n.toNat), false⟩) := by
    intro o n h1 h2 h3
    rw [fixed_W (c := ⟨d.drop o, false⟩) (by show 0 ≤ n ∧ n ≤ ((d.drop o).length : Int); simp; omega) (by omega)]
    show some (_, (⟨(d.drop o).drop n.toNat, false⟩ : S_segment_cursor)) = _
    rw [List.drop_drop]
  rw [Wp_bnd, fx 4 4 (by decide) (by decide) (by omega), Wp_some, Wp_bnd, fx (4 + Int.toNat 4) 8 (by decide) (by decide) (by show (8 : Int) + 8 ≤ _; omega), Wp_some, Wp_bnd, fx (4 + Int.toNat 4 + Int.toNat 8) 8 (by decide) (by decide) (by show (16 : Int) + 8 ≤ _; omega), Wp_some, Wp_bd, Wp_bindE]
  have e24 : 4 + Int.toNat 4 + Int.toNat 8 + Int.toNat 8 = 24 := rfl
  rw [e24]
  refine Wp_loop (fun j => 0 ≤ j.2.1 ∧ j.2.1 ≤ 12 ∧ j.1 = tot d j.2.1.toNat ∧ j.2.2.1 = ⟨d.drop (24 + 8 * j.2.1.toNat), false⟩ ∧ (j.2.2.2.length : Int) = j.2.1) (fun j => (12 - j.2.1).toNat) ⟨Int.le_refl _, by show (0 : Int) ≤ 12; decide, rfl, rfl, rfl⟩ ?_
  rintro ⟨a, k, c, es⟩ ⟨k1, k2, k3, k4, k5⟩
  dsimp only at k1 k2 k3 k4 k5
  subst k3
  subst k4
  unfold L_segment_parse_2
  rw [Wp_cond]
  refine ⟨fun hk => ?_, fun hk => ?_⟩
  · have hk : k < 12 := of_decide_eq_true hk
    rw [Wp_bnd, fx _ 4 (by decide) (by decide) (by omega), Wp_some, Wp_bnd, fx _ 4 (by decide) (by decide) (by have : Int.toNat 4 = 4 := rfl; omega), Wp_some]
    simp only [Wp_some, Wp_gd, Wp_cond, Wp_bd, Wp_bnd, Wp_bindE, Sum.elim_inl, Sum.elim_inr, condO, condA, decide_eq_true_eq, decide_eq_false_iff_not, Bool.or_eq_true, Bool.or_eq_false_iff, Bool.and_eq_true, Bool.and_eq_false_iff, Bool.not_eq_true', Bool.not_eq_false', bne_iff_ne, bne_eq_false_iff_eq, beq_iff_eq, beq_eq_false_iff_ne, true_and, and_true, Int.not_lt, Int.not_le, ne_eq, not_false_eq_true, implies_true, forall_const, gt_iff_lt, ge_iff_le, List.length_append, List.length_cons, List.length_nil]
    rw [w64 (x := k + 1) (by omega)]
    have ek : (k + 1).toNat = k.toNat + 1 := by omega
    refine ⟨by omega, ⟨by omega, by omega, ?_, ?_, by omega⟩, by omega⟩
    · rw [ek]
      rfl
    · rw [ek]
      rfl
  · have hk : ¬ k < 12 := of_decide_eq_false hk
    have : k = 12 := by omega
    subst this
    rw [Wp_some]
    show Wp _ _
    dsimp only
    rw [Wp_bnd, fx (24 + 8 * Int.toNat 12) 4 (by decide) (by decide) (by show (120 : Int) + 4 ≤ _; omega), Wp_some, Wp_gd, Wp_bnd, sub_take, sCrc_W (by simp; omega), Wp_some, Wp_cond]
    have e120 : 24 + 8 * Int.toNat 12 = 120 := rfl
    have e120' : Int.toNat 120 = 120 := rfl
    have e4 : Int.toNat 4 = 4 := rfl
    rw [e120, e120', e4]
    have hG : IntKind.wrap .u32 (gnum ((d.drop 120).take 4)) = gnum ((d.drop 120).take 4) := by
      have := gnum4 (l := (d.drop 120).take 4) (by simp; omega) (fun x hx => hb x (by
        have e : (d.drop 120).take 4 = (d.take 124).drop 120 := by rw [List.drop_take]
        rw [e] at hx
        exact List.mem_of_mem_drop hx))
      rw [wU32]
      omega
    dsimp only
    rw [hG]
    refine ⟨by omega, fun z => ?_, fun z => ?_⟩
    · rw [Wp_some]
      unfold sErr
      rw [if_neg h, if_neg q, if_pos (by simpa using z)]
    have z : ¬ gnum ((d.drop 120).take 4) ≠ crcF (d.take 120) := by simpa using z
    rw [Wp_cond]
    refine ⟨fun w => ?_, fun w => ?_⟩
    · rw [Wp_some]
      have w : (d.length : Int) ≠ tot d 12 := by
        have : tot d 12 ≠ (d.length : Int) := by simpa using w
        exact fun z => this z.symm
      unfold sErr
      rw [if_neg h, if_neg q, if_neg z, if_pos w]
    · rw [Wp_some]
      have w : ¬ (d.length : Int) ≠ tot d 12 := by
        have : tot d 12 = (d.length : Int) := by simpa using w
        exact fun z => z this.symm
      unfold sErr
      rw [if_neg h, if_neg q, if_neg z, if_neg w]

theorem sSummary_W {d : List Int} (hd : d.length ≤ 2199023255552) (hb : ∀ x ∈ d.take 124, byte x) : Wp (F_segment_Summary d) fun r => r.2 = sErr d := by
  simp only [F_segment_Summary, Wp_some, Wp_gd, Wp_cond, Wp_bd, Wp_bnd, Wp_bindE, Sum.elim_inl, Sum.elim_inr, condO, condA, decide_eq_true_eq, decide_eq_false_iff_not, Bool.or_eq_true, Bool.or_eq_false_iff, Bool.and_eq_true, Bool.and_eq_false_iff, Bool.not_eq_true', Bool.not_eq_false', bne_iff_ne, bne_eq_false_iff_eq, beq_iff_eq, beq_eq_false_iff_ne, true_and, and_true, Int.not_lt, Int.not_le, ne_eq, not_false_eq_true, implies_true, forall_const, gt_iff_lt, ge_iff_le]
  exact parse_W hd hb
end Go.Abs
