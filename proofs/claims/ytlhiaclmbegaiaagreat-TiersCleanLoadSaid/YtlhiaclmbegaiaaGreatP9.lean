/- DERIVED. Plain laws, part 9: filters; a segment of drawn events. -/
import Derived.Test.YtlhiaclmbegaiaaGreatP8
set_option linter.unusedVariables false
set_option linter.unusedSimpArgs false
namespace Go.Abs
open Go

theorem Terms_W {e : S_Event} (h : EvOk e) : Wp (F_r27_Terms e) fun r => r.length ≤ 200 := by
  have hc := h.cnt
  have hf := h.fields.len
  simp only [F_r27_Terms, Wp_some, Wp_gd, Wp_cond, Wp_bd, Wp_bnd, Wp_bindE, Sum.elim_inl, Sum.elim_inr, condO, condA, decide_eq_true_eq, decide_eq_false_iff_not, Bool.or_eq_true, Bool.or_eq_false_iff, Bool.and_eq_true, Bool.and_eq_false_iff, Bool.not_eq_true', Bool.not_eq_false', bne_iff_ne, bne_eq_false_iff_eq, beq_iff_eq, beq_eq_false_iff_ne, true_and, and_true, Int.not_lt, Int.not_le, ne_eq, not_false_eq_true, implies_true, forall_const, gt_iff_lt, ge_iff_le]
  refine (ETxt_W h.txt (by omega)).mono fun t ht => ?_
  refine (Words_W (by omega)).mono fun w ⟨_, hw⟩ => ?_
  refine Wp_loop (fun j => 0 ≤ j.1 ∧ j.1 ≤ (e.Fields.length : Int) ∧ (j.2.length : Int) ≤ 184 + j.1) (fun j => ((e.Fields.length : Int) - j.1).toNat) ⟨Int.le_refl _, by show (0 : Int) ≤ _; omega, by show (w.length : Int) ≤ 184 + 0; omega⟩ ?_
  rintro ⟨i, b⟩ ⟨k1, k2, k3⟩
  dsimp only at k1 k2 k3
  simp only [L_r27_Terms_2, Wp_some, Wp_gd, Wp_cond, Wp_bd, Wp_bnd, Wp_bindE, Sum.elim_inl, Sum.elim_inr, condO, condA, decide_eq_true_eq, decide_eq_false_iff_not, Bool.or_eq_true, Bool.or_eq_false_iff, Bool.and_eq_true, Bool.and_eq_false_iff, Bool.not_eq_true', Bool.not_eq_false', bne_iff_ne, bne_eq_false_iff_eq, beq_iff_eq, beq_eq_false_iff_ne, true_and, and_true, Int.not_lt, Int.not_le, ne_eq, not_false_eq_true, implies_true, forall_const, gt_iff_lt, ge_iff_le, List.length_append, List.length_cons, List.length_nil, ByteArray.size_append]
  rw [w64 (x := i + 1) (by omega)]
  have h61 : (ByteArray.mk #[61]).size = 1 := rfl
  rw [h61]
  refine ⟨fun hi => ?_, fun hi => (Distinct_W (by omega)).mono fun r d => by have := d.len; omega⟩
  have hv := getD_int (d := default) (R := fun f : S_Field => f.Value.size ≤ 20) h.fields.2 ⟨k1, hi⟩
  have hn := (fNames_ok _ (getD_int (d := default) (R := fun f : S_Field => f.Name ∈ fNames) h.fields.name ⟨k1, hi⟩)).2.1
  exact ⟨⟨k1, hi⟩, by omega, by omega, fun _ => by omega, fun _ => by omega⟩

theorem Hash_W {s : Int} {x : ByteArray} (hx : x.size ≤ 1099511627776) : Wp (F_r26_Hash s x) fun r => 0 ≤ r ∧ r < 4294967296 := by
  simp only [F_r26_Hash, Wp_some, Wp_gd, Wp_cond, Wp_bd, Wp_bnd, Wp_bindE, Sum.elim_inl, Sum.elim_inr, condO, condA, decide_eq_true_eq, decide_eq_false_iff_not, Bool.or_eq_true, Bool.or_eq_false_iff, Bool.and_eq_true, Bool.and_eq_false_iff, Bool.not_eq_true', Bool.not_eq_false', bne_iff_ne, bne_eq_false_iff_eq, beq_iff_eq, beq_eq_false_iff_ne, true_and, and_true, Int.not_lt, Int.not_le, ne_eq, not_false_eq_true, implies_true, forall_const, gt_iff_lt, ge_iff_le]
  refine Wp_loop (fun j => 0 ≤ j.2 ∧ j.2 ≤ (x.size : Int)) (fun j => ((x.size : Int) - j.2).toNat) ⟨Int.le_refl _, by show (0 : Int) ≤ _; omega⟩ ?_
  rintro ⟨c, i⟩ ⟨k1, k2⟩
  dsimp only at k1 k2
  simp only [L_r26_Hash_2, Wp_some, Wp_gd, Wp_cond, Wp_bd, Wp_bnd, Wp_bindE, Sum.elim_inl, Sum.elim_inr, condO, condA, decide_eq_true_eq, decide_eq_false_iff_not, Bool.or_eq_true, Bool.or_eq_false_iff, Bool.and_eq_true, Bool.and_eq_false_iff, Bool.not_eq_true', Bool.not_eq_false', bne_iff_ne, bne_eq_false_iff_eq, beq_iff_eq, beq_eq_false_iff_ne, true_and, and_true, Int.not_lt, Int.not_le, ne_eq, not_false_eq_true, implies_true, forall_const, gt_iff_lt, ge_iff_le]
  rw [w64 (x := i + 1) (by omega)]
  refine ⟨fun hi => ⟨⟨k1, hi⟩, by omega, by omega⟩, fun hi => ?_⟩
  rw [wU32]
  omega

theorem Positions_W {f : S_Filter} {x : ByteArray} (hf : f.Hashes = 3) (hb : 1 ≤ f.Bits.length ∧ f.Bits.length ≤ 1024) (hx : x.size ≤ 1099511627776) :
    Wp (F_r26_Positions f x) fun r => r.length ≤ 3 ∧ ∀ p ∈ r, 0 ≤ p ∧ p < 64 * (f.Bits.length : Int) := by
  simp only [F_r26_Positions, Wp_some, Wp_gd, Wp_cond, Wp_bd, Wp_bnd, Wp_bindE, Sum.elim_inl, Sum.elim_inr, condO, condA, decide_eq_true_eq, decide_eq_false_iff_not, Bool.or_eq_true, Bool.or_eq_false_iff, Bool.and_eq_true, Bool.and_eq_false_iff, Bool.not_eq_true', Bool.not_eq_false', bne_iff_ne, bne_eq_false_iff_eq, beq_iff_eq, beq_eq_false_iff_ne, true_and, and_true, Int.not_lt, Int.not_le, ne_eq, not_false_eq_true, implies_true, forall_const, gt_iff_lt, ge_iff_le]
  refine (Hash_W hx).mono fun r1 h1 => ?_
  refine (Hash_W hx).mono fun r2 h2 => ?_
  refine Wp_loop (fun j => 0 ≤ j.1 ∧ j.1 ≤ 3 ∧ (j.2.length : Int) ≤ j.1 ∧ ∀ p ∈ j.2, 0 ≤ p ∧ p < 64 * (f.Bits.length : Int)) (fun j => (3 - j.1).toNat) ⟨Int.le_refl _, by show (0 : Int) ≤ 3; decide, Int.le_refl _, by simp⟩ ?_
  rintro ⟨i, b⟩ ⟨k1, k2, k3, k4⟩
  dsimp only at k1 k2 k3 k4
  simp only [L_r26_Positions_2, Wp_some, Wp_gd, Wp_cond, Wp_bd, Wp_bnd, Wp_bindE, Sum.elim_inl, Sum.elim_inr, condO, condA, decide_eq_true_eq, decide_eq_false_iff_not, Bool.or_eq_true, Bool.or_eq_false_iff, Bool.and_eq_true, Bool.and_eq_false_iff, Bool.not_eq_true', Bool.not_eq_false', bne_iff_ne, bne_eq_false_iff_eq, beq_iff_eq, beq_eq_false_iff_ne, true_and, and_true, Int.not_lt, Int.not_le, ne_eq, not_false_eq_true, implies_true, forall_const, gt_iff_lt, ge_iff_le, List.length_append, List.length_cons, List.length_nil, hf]
  rw [w64 (x := i + 1) (by omega), w64 (x := 64 * (f.Bits.length : Int)) (by omega)]
  refine ⟨fun hi => ⟨by omega, by omega, ⟨by omega, by omega, by omega, fun p hp => ?_⟩, by omega⟩, fun hi => ⟨by omega, k4⟩⟩
  rcases List.mem_append.1 hp with hp | hp
  · exact k4 p hp
  · simp only [List.mem_singleton] at hp
    subst hp
    have hu : ∀ y, 0 ≤ IntKind.wrap .u32 y ∧ IntKind.wrap .u32 y < 4294967296 := by
      intro y
      rw [wU32]
      omega
    have h3 := hu (r1 + IntKind.wrap .u32 (IntKind.wrap .u32 i * r2))
    generalize IntKind.wrap .u32 (r1 + IntKind.wrap .u32 (IntKind.wrap .u32 i * r2)) = y at *
    rw [w64 (x := y) (by omega), Int.tmod_eq_emod_of_nonneg h3.1]
    exact ⟨Int.emod_nonneg _ (by omega), Int.emod_lt_of_pos _ (by omega)⟩

theorem Build_W {l : List ByteArray} (hl : l.length ≤ 1000000) (hx : ∀ x ∈ l, x.size ≤ 1099511627776) : Wp (F_r26_Build l 10) fun r => r.1.Bits.length ≤ 1024 := by
  simp only [F_r26_Build, F_r26_New, Wp_some, Wp_gd, Wp_cond, Wp_bd, Wp_bnd, Wp_bindE, Sum.elim_inl, Sum.elim_inr, condO, condA, decide_eq_true_eq, decide_eq_false_iff_not, Bool.or_eq_true, Bool.or_eq_false_iff, Bool.and_eq_true, Bool.and_eq_false_iff, Bool.not_eq_true', Bool.not_eq_false', bne_iff_ne, bne_eq_false_iff_eq, beq_iff_eq, beq_eq_false_iff_ne, true_and, and_true, Int.not_lt, Int.not_le, ne_eq, not_false_eq_true, implies_true, forall_const, gt_iff_lt, ge_iff_le]
  refine ⟨fun h => by omega, fun _ => ?_⟩
  have hk : 1 ≤ (if (l.length : Int) > 1 then (l.length : Int) else 1) ∧ (if (l.length : Int) > 1 then (l.length : Int) else 1) ≤ 1000000 := by
    split <;> omega
  generalize hK : (if (l.length : Int) > 1 then (l.length : Int) else 1) = k at *
  rw [w64 (x := k * 10) (by omega)]
  have hm : 1 ≤ (if k * 10 < 65536 then k * 10 else 65536) ∧ (if k * 10 < 65536 then k * 10 else 65536) ≤ 65536 := by
    split <;> omega
  generalize (if k * 10 < 65536 then k * 10 else 65536) = m at *
  rw [w64 (x := m + 63) (by omega), Int.tdiv_eq_ediv_of_nonneg (by omega), w64 (x := (m + 63) / 64) (by omega)]
  refine ⟨fun h => by omega, fun _ => ⟨by omega, by omega, ?_⟩⟩
  refine Wp_loop (fun j => 0 ≤ j.1 ∧ j.1 ≤ (l.length : Int) ∧ j.2.length = ((m + 63) / 64).toNat) (fun j => ((l.length : Int) - j.1).toNat) ⟨Int.le_refl _, by show (0 : Int) ≤ _; omega, by simp⟩ ?_
  rintro ⟨i, b⟩ ⟨k1, k2, k3⟩
  dsimp only at k1 k2 k3
  simp only [L_r26_Build_2, Wp_some, Wp_gd, Wp_cond, Wp_bd, Wp_bnd, Wp_bindE, Sum.elim_inl, Sum.elim_inr, condO, condA, decide_eq_true_eq, decide_eq_false_iff_not, Bool.or_eq_true, Bool.or_eq_false_iff, Bool.and_eq_true, Bool.and_eq_false_iff, Bool.not_eq_true', Bool.not_eq_false', bne_iff_ne, bne_eq_false_iff_eq, beq_iff_eq, beq_eq_false_iff_ne, true_and, and_true, Int.not_lt, Int.not_le, ne_eq, not_false_eq_true, implies_true, forall_const, gt_iff_lt, ge_iff_le]
  rw [w64 (x := i + 1) (by omega)]
  refine ⟨fun hi => ⟨⟨k1, hi⟩, ?_⟩, fun hi => by omega⟩
  refine (Positions_W rfl (by show 1 ≤ b.length ∧ b.length ≤ 1024; omega) (getD_int (d := default) hx ⟨k1, hi⟩)).mono fun r3 ⟨h3, h4⟩ => ?_
  refine Wp_loop (fun j => 0 ≤ j.1 ∧ j.1 ≤ (r3.length : Int) ∧ j.2.length = ((m + 63) / 64).toNat) (fun j => ((r3.length : Int) - j.1).toNat) ⟨Int.le_refl _, by show (0 : Int) ≤ _; omega, k3⟩ ?_
  rintro ⟨q, c⟩ ⟨q1, q2, q3⟩
  dsimp only at q1 q2 q3
  simp only [L_r26_Build_4, Wp_some, Wp_gd, Wp_cond, Wp_bd, Wp_bnd, Wp_bindE, Sum.elim_inl, Sum.elim_inr, condO, condA, decide_eq_true_eq, decide_eq_false_iff_not, Bool.or_eq_true, Bool.or_eq_false_iff, Bool.and_eq_true, Bool.and_eq_false_iff, Bool.not_eq_true', Bool.not_eq_false', bne_iff_ne, bne_eq_false_iff_eq, beq_iff_eq, beq_eq_false_iff_ne, true_and, and_true, Int.not_lt, Int.not_le, ne_eq, not_false_eq_true, implies_true, forall_const, gt_iff_lt, ge_iff_le, List.length_set]
  rw [w64 (x := q + 1) (by omega)]
  refine ⟨fun hq => ?_, fun hq => by omega⟩
  have hp := getD_int (d := default) h4 ⟨q1, hq⟩
  generalize r3.getD q.toNat default = p at *
  have hp2 : 0 ≤ p ∧ p < 64 * (b.length : Int) := hp
  rw [Int.tdiv_eq_ediv_of_nonneg hp2.1, Int.tmod_eq_emod_of_nonneg hp2.1, w64 (x := p / 64) (by omega)]
  exact ⟨⟨q1, hq⟩, by omega, by omega, by omega⟩

theorem Encode26_W {f : S_Filter} (hb : f.Bits.length ≤ 1024) : Wp (F_r26_Encode f) fun r => r.1.length ≤ 10000 := by
  simp only [F_r26_Encode, F_r26_Check, Wp_some, Wp_gd, Wp_cond, Wp_bd, Wp_bnd, Wp_bindE, Sum.elim_inl, Sum.elim_inr, condO, condA, decide_eq_true_eq, decide_eq_false_iff_not, Bool.or_eq_true, Bool.or_eq_false_iff, Bool.and_eq_true, Bool.and_eq_false_iff, Bool.not_eq_true', Bool.not_eq_false', bne_iff_ne, bne_eq_false_iff_eq, beq_iff_eq, beq_eq_false_iff_ne, true_and, and_true, Int.not_lt, Int.not_le, ne_eq, not_false_eq_true, implies_true, forall_const, gt_iff_lt, ge_iff_le]
  refine ⟨fun _ => ⟨fun _ => by simp, fun h => by omega⟩, fun _ => ⟨fun h => absurd trivial h, ?_⟩⟩
  refine Wp_loop (fun j => 0 ≤ j.1 ∧ j.1 ≤ (f.Bits.length : Int) ∧ (j.2.length : Int) ≤ 3 + 8 * j.1) (fun j => ((f.Bits.length : Int) - j.1).toNat) ⟨Int.le_refl _, by show (0 : Int) ≤ _; omega, Int.le_refl _⟩ ?_
  rintro ⟨i, b⟩ ⟨k1, k2, k3⟩
  dsimp only at k1 k2 k3
  simp only [L_r26_Encode_2, Wp_some, Wp_gd, Wp_cond, Wp_bd, Wp_bnd, Wp_bindE, Sum.elim_inl, Sum.elim_inr, condO, condA, decide_eq_true_eq, decide_eq_false_iff_not, Bool.or_eq_true, Bool.or_eq_false_iff, Bool.and_eq_true, Bool.and_eq_false_iff, Bool.not_eq_true', Bool.not_eq_false', bne_iff_ne, bne_eq_false_iff_eq, beq_iff_eq, beq_eq_false_iff_ne, true_and, and_true, Int.not_lt, Int.not_le, ne_eq, not_false_eq_true, implies_true, forall_const, gt_iff_lt, ge_iff_le]
  rw [w64 (x := i + 1) (by omega)]
  refine ⟨fun hi => ?_, fun hi => by omega⟩
  refine Wp_loop (fun j => 0 ≤ j.1 ∧ j.1 ≤ 8 ∧ (j.2.length : Int) ≤ 3 + 8 * i + j.1) (fun j => (8 - j.1).toNat) ⟨Int.le_refl _, by show (0 : Int) ≤ 8; decide, by show (b.length : Int) ≤ 3 + 8 * i + 0; omega⟩ ?_
  rintro ⟨k, c⟩ ⟨q1, q2, q3⟩
  dsimp only at q1 q2 q3
  simp only [L_r26_Encode_4, Wp_some, Wp_gd, Wp_cond, Wp_bd, Wp_bnd, Wp_bindE, Sum.elim_inl, Sum.elim_inr, condO, condA, decide_eq_true_eq, decide_eq_false_iff_not, Bool.or_eq_true, Bool.or_eq_false_iff, Bool.and_eq_true, Bool.and_eq_false_iff, Bool.not_eq_true', Bool.not_eq_false', bne_iff_ne, bne_eq_false_iff_eq, beq_iff_eq, beq_eq_false_iff_ne, true_and, and_true, Int.not_lt, Int.not_le, ne_eq, not_false_eq_true, implies_true, forall_const, gt_iff_lt, ge_iff_le, List.length_append, List.length_cons, List.length_nil]
  rw [w64 (x := k + 1) (by omega), w64 (x := 8 * k) (by omega)]
  exact ⟨fun hk => ⟨⟨k1, hi⟩, by omega, by omega, by omega⟩, fun hk => by omega⟩

theorem strOf_size (n : Nat) (f : Nat → Int) : (strOf n f).size = n := by
  have key : ∀ (l : List Int) (b : ByteArray), (l.foldl (fun r n => r.push (UInt8.ofNat n.toNat)) b).size = b.size + l.length := by
    intro l
    induction l with
    | nil => intro b; rfl
    | cons x l ih =>
      intro b
      rw [List.foldl_cons, ih, ByteArray.size_push, List.length_cons]
      omega
  unfold strOf
  rw [key]
  simp
theorem Words_sz {s : ByteArray} (hs : s.size ≤ 1073741824) : Wp (F_r27_Words s) fun r => ∀ w ∈ r, w.size ≤ 40 := by
  simp only [F_r27_Words, Wp_some, Wp_gd, Wp_cond, Wp_bd, Wp_bnd, Wp_bindE, Sum.elim_inl, Sum.elim_inr, condO, condA, decide_eq_true_eq, decide_eq_false_iff_not, Bool.or_eq_true, Bool.or_eq_false_iff, Bool.and_eq_true, Bool.and_eq_false_iff, Bool.not_eq_true', Bool.not_eq_false', bne_iff_ne, bne_eq_false_iff_eq, beq_iff_eq, beq_eq_false_iff_ne, true_and, and_true, Int.not_lt, Int.not_le, ne_eq, not_false_eq_true, implies_true, forall_const, gt_iff_lt, ge_iff_le]
  refine Wp_loop (fun j => 0 ≤ j.1 ∧ j.1 ≤ (s.size : Int) + 1 ∧ ((j.2.1.length : Int) ≤ j.1 ∧ ∀ w ∈ j.2.1, w.size ≤ 40) ∧ (j.2.2.length : Int) ≤ j.1) (fun j => ((s.size : Int) + 1 - j.1).toNat) ⟨Int.le_refl _, by show (0 : Int) ≤ _; omega, ⟨Int.le_refl _, by simp⟩, Int.le_refl _⟩ ?_
  rintro ⟨i, out, word⟩ ⟨k1, k2, ⟨k3, k5⟩, k4⟩
  dsimp only at k1 k2 k3 k4 k5
  simp only [L_r27_Words_2, Wp_some, Wp_gd, Wp_cond, Wp_bd, Wp_bnd, Wp_bindE, Sum.elim_inl, Sum.elim_inr, condO, condA, decide_eq_true_eq, decide_eq_false_iff_not, Bool.or_eq_true, Bool.or_eq_false_iff, Bool.and_eq_true, Bool.and_eq_false_iff, Bool.not_eq_true', Bool.not_eq_false', bne_iff_ne, bne_eq_false_iff_eq, beq_iff_eq, beq_eq_false_iff_ne, true_and, and_true, Int.not_lt, Int.not_le, ne_eq, not_false_eq_true, implies_true, forall_const, gt_iff_lt, ge_iff_le, List.length_append, List.length_cons, List.length_nil]
  rw [w64 (x := i + 1) (by omega)]
  have hw : (word.length : Int) ≤ 40 → ∀ w ∈ out ++ [strOf word.length fun i => word.getD i default], w.size ≤ 40 := by
    intro hl w hw
    rcases List.mem_append.1 hw with hw | hw
    · exact k5 w hw
    · simp only [List.mem_singleton] at hw
      subst hw
      rw [strOf_size]
      omega
  refine ⟨fun hi => ⟨fun h => ⟨⟨k1, h⟩, (Letter_W _).mono fun c _ => ⟨fun _ => ⟨by omega, ⟨by omega, by omega, ⟨by omega, k5⟩, by omega⟩, by omega⟩, fun _ => ⟨fun g => ⟨by omega, ⟨by omega, by omega, ⟨by omega, hw g.2⟩, by omega⟩, by omega⟩, fun _ => ⟨⟨by omega, by omega, ⟨by omega, k5⟩, by omega⟩, by omega⟩⟩⟩⟩, fun h => ⟨fun q => absurd trivial q, fun g => ⟨by omega, ⟨by omega, by omega, ⟨by omega, hw g.2⟩, by omega⟩, by omega⟩, fun _ => ⟨⟨by omega, by omega, ⟨by omega, k5⟩, by omega⟩, by omega⟩⟩⟩, fun hi => (Distinct_W (by omega)).mono fun r d => fun w hw => k5 w (d.s w hw)⟩

theorem Terms_sz {e : S_Event} (h : EvOk e) : Wp (F_r27_Terms e) fun r => ∀ x ∈ r, x.size ≤ 2048 := by
  have hc := h.cnt
  have hf := h.fields.len
  simp only [F_r27_Terms, Wp_some, Wp_gd, Wp_cond, Wp_bd, Wp_bnd, Wp_bindE, Sum.elim_inl, Sum.elim_inr, condO, condA, decide_eq_true_eq, decide_eq_false_iff_not, Bool.or_eq_true, Bool.or_eq_false_iff, Bool.and_eq_true, Bool.and_eq_false_iff, Bool.not_eq_true', Bool.not_eq_false', bne_iff_ne, bne_eq_false_iff_eq, beq_iff_eq, beq_eq_false_iff_ne, true_and, and_true, Int.not_lt, Int.not_le, ne_eq, not_false_eq_true, implies_true, forall_const, gt_iff_lt, ge_iff_le]
  refine (ETxt_W h.txt (by omega)).mono fun t ht => ?_
  refine ((Words_W (by omega)).and (Words_sz (by omega))).mono fun w ⟨⟨_, hw⟩, hs⟩ => ?_
  refine Wp_loop (fun j => 0 ≤ j.1 ∧ j.1 ≤ (e.Fields.length : Int) ∧ (j.2.length : Int) ≤ 184 + j.1 ∧ ∀ x ∈ j.2, x.size ≤ 2048) (fun j => ((e.Fields.length : Int) - j.1).toNat) ⟨Int.le_refl _, by show (0 : Int) ≤ _; omega, by show (w.length : Int) ≤ 184 + 0; omega, fun x hx => by have := hs x hx; omega⟩ ?_
  rintro ⟨i, b⟩ ⟨k1, k2, k3, k4⟩
  dsimp only at k1 k2 k3 k4
  simp only [L_r27_Terms_2, Wp_some, Wp_gd, Wp_cond, Wp_bd, Wp_bnd, Wp_bindE, Sum.elim_inl, Sum.elim_inr, condO, condA, decide_eq_true_eq, decide_eq_false_iff_not, Bool.or_eq_true, Bool.or_eq_false_iff, Bool.and_eq_true, Bool.and_eq_false_iff, Bool.not_eq_true', Bool.not_eq_false', bne_iff_ne, bne_eq_false_iff_eq, beq_iff_eq, beq_eq_false_iff_ne, true_and, and_true, Int.not_lt, Int.not_le, ne_eq, not_false_eq_true, implies_true, forall_const, gt_iff_lt, ge_iff_le, List.length_append, List.length_cons, List.length_nil, ByteArray.size_append]
  rw [w64 (x := i + 1) (by omega)]
  have h61 : (ByteArray.mk #[61]).size = 1 := rfl
  rw [h61]
  refine ⟨fun hi => ?_, fun hi => (Distinct_W (by omega)).mono fun r d => fun x hx => k4 x (d.s x hx)⟩
  have hv := getD_int (d := default) (R := fun f : S_Field => f.Value.size ≤ 20) h.fields.2 ⟨k1, hi⟩
  have hn := (fNames_ok _ (getD_int (d := default) (R := fun f : S_Field => f.Name ∈ fNames) h.fields.name ⟨k1, hi⟩)).2.1
  refine ⟨⟨k1, hi⟩, by omega, by omega, fun _ => ⟨by omega, ⟨by omega, by omega, by omega, fun x hx => ?_⟩, by omega⟩, fun _ => by omega⟩
  rcases List.mem_append.1 hx with hx | hx
  · exact k4 x hx
  · simp only [List.mem_singleton] at hx
    subst hx
    simp only [ByteArray.size_append, h61]
    omega

theorem filter_W {l : List S_Event} {n : Int} (h : EvsOk l n) (hn : n ≤ 150) : Wp (F_r27_filter l) fun r => r.length ≤ 137438953472 := by
  have hlen := h.len
  simp only [F_r27_filter, Wp_some, Wp_gd, Wp_cond, Wp_bd, Wp_bnd, Wp_bindE, Sum.elim_inl, Sum.elim_inr, condO, condA, decide_eq_true_eq, decide_eq_false_iff_not, Bool.or_eq_true, Bool.or_eq_false_iff, Bool.and_eq_true, Bool.and_eq_false_iff, Bool.not_eq_true', Bool.not_eq_false', bne_iff_ne, bne_eq_false_iff_eq, beq_iff_eq, beq_eq_false_iff_ne, true_and, and_true, Int.not_lt, Int.not_le, ne_eq, not_false_eq_true, implies_true, forall_const, gt_iff_lt, ge_iff_le]
  refine Wp_loop (fun j => 0 ≤ j.1 ∧ j.1 ≤ (l.length : Int) ∧ (j.2.length : Int) ≤ 200 * j.1 ∧ ∀ x ∈ j.2, x.size ≤ 2048) (fun j => ((l.length : Int) - j.1).toNat) ⟨Int.le_refl _, by show (0 : Int) ≤ _; omega, Int.le_refl _, by simp⟩ ?_
  rintro ⟨i, b⟩ ⟨k1, k2, k3, k4⟩
  dsimp only at k1 k2 k3 k4
  simp only [L_r27_filter_2, Wp_some, Wp_gd, Wp_cond, Wp_bd, Wp_bnd, Wp_bindE, Sum.elim_inl, Sum.elim_inr, condO, condA, decide_eq_true_eq, decide_eq_false_iff_not, Bool.or_eq_true, Bool.or_eq_false_iff, Bool.and_eq_true, Bool.and_eq_false_iff, Bool.not_eq_true', Bool.not_eq_false', bne_iff_ne, bne_eq_false_iff_eq, beq_iff_eq, beq_eq_false_iff_ne, true_and, and_true, Int.not_lt, Int.not_le, ne_eq, not_false_eq_true, implies_true, forall_const, gt_iff_lt, ge_iff_le, List.length_append]
  rw [w64 (x := i + 1) (by omega)]
  refine ⟨fun hi => ⟨⟨k1, hi⟩, ?_⟩, fun hi => ?_⟩
  · have he := getD_int (d := default) h.ok ⟨k1, hi⟩
    refine ((Terms_W he).and (Terms_sz he)).mono fun r ⟨g1, g2⟩ => ⟨by omega, ⟨by omega, by omega, by omega, fun x hx => ?_⟩, by omega⟩
    rcases List.mem_append.1 hx with hx | hx
    · exact k4 x hx
    · exact g2 x hx
  · refine (Distinct_W (by omega)).mono fun r4 d => ?_
    have hd := d.len
    refine (Build_W (by omega) fun x hx => by have := k4 x (d.s x hx); omega).mono fun r5 h5 => ?_
    exact (Encode26_W h5).mono fun r6 h6 => by omega

theorem section_W {l : List S_Event} {n k : Int} (h : EvsOk l n) (hn : n ≤ 150) : Wp (F_r27_section l k) fun r => r.length ≤ 137438953472 := by
  have hlen := h.len
  have hA : Wp (loop (L_r27_section_3 l k) (0, ([] : List ByteArray))) (Sum.elim (fun s => s.length ≤ 150) fun r => r.length ≤ 137438953472) := by
    refine Wp_loop (fun j => 0 ≤ j.1 ∧ j.1 ≤ (l.length : Int) ∧ (j.2.length : Int) ≤ j.1) (fun j => ((l.length : Int) - j.1).toNat) ⟨Int.le_refl _, by show (0 : Int) ≤ _; omega, Int.le_refl _⟩ ?_
    rintro ⟨i, b⟩ ⟨k1, k2, k3⟩
    dsimp only at k1 k2 k3
    simp only [L_r27_section_3, Wp_some, Wp_gd, Wp_cond, Wp_bd, Wp_bnd, Wp_bindE, Sum.elim_inl, Sum.elim_inr, condO, condA, decide_eq_true_eq, decide_eq_false_iff_not, Bool.or_eq_true, Bool.or_eq_false_iff, Bool.and_eq_true, Bool.and_eq_false_iff, Bool.not_eq_true', Bool.not_eq_false', bne_iff_ne, bne_eq_false_iff_eq, beq_iff_eq, beq_eq_false_iff_ne, true_and, and_true, Int.not_lt, Int.not_le, ne_eq, not_false_eq_true, implies_true, forall_const, gt_iff_lt, ge_iff_le, List.length_append, List.length_cons, List.length_nil]
    rw [w64 (x := i + 1) (by omega)]
    exact ⟨fun hi => ⟨fun _ => ⟨⟨k1, hi⟩, by omega, by omega, by omega⟩, fun _ => ⟨⟨k1, hi⟩, by omega, by omega, by omega⟩⟩, fun hi => by omega⟩
  have hI : Wp (bindE (loop (L_r27_section_3 l k) (0, ([] : List ByteArray))) fun j2 => bnd (F_r27_indexed j2) fun r5 => some r5) fun r => r.length ≤ 137438953472 := by
    simp only [Wp_some, Wp_gd, Wp_cond, Wp_bd, Wp_bnd, Wp_bindE, Sum.elim_inl, Sum.elim_inr, condO, condA, decide_eq_true_eq, decide_eq_false_iff_not, Bool.or_eq_true, Bool.or_eq_false_iff, Bool.and_eq_true, Bool.and_eq_false_iff, Bool.not_eq_true', Bool.not_eq_false', bne_iff_ne, bne_eq_false_iff_eq, beq_iff_eq, beq_eq_false_iff_ne, true_and, and_true, Int.not_lt, Int.not_le, ne_eq, not_false_eq_true, implies_true, forall_const, gt_iff_lt, ge_iff_le]
    refine hA.mono fun r hr => ?_
    cases r with
    | inl s => exact (indexed_W (by have : s.length ≤ 150 := hr; omega)).mono fun r h => by omega
    | inr r => exact hr
  have hC : Wp (loop (L_r27_section_6 l k) (0, ([] : List Int))) (Sum.elim (fun s => s.length ≤ 150) fun r => r.length ≤ 137438953472) := by
    refine Wp_loop (fun j => 0 ≤ j.1 ∧ j.1 ≤ (l.length : Int) ∧ (j.2.length : Int) ≤ j.1) (fun j => ((l.length : Int) - j.1).toNat) ⟨Int.le_refl _, by show (0 : Int) ≤ _; omega, Int.le_refl _⟩ ?_
    rintro ⟨i, b⟩ ⟨k1, k2, k3⟩
    dsimp only at k1 k2 k3
    have hN : Wp (F_r27_number (l.getD i.toNat default) k) fun _ => True := by
      simp only [F_r27_number, Wp_some, Wp_gd, Wp_cond, Wp_bd, Wp_bnd, Wp_bindE, Sum.elim_inl, Sum.elim_inr, condO, condA, decide_eq_true_eq, decide_eq_false_iff_not, Bool.or_eq_true, Bool.or_eq_false_iff, Bool.and_eq_true, Bool.and_eq_false_iff, Bool.not_eq_true', Bool.not_eq_false', bne_iff_ne, bne_eq_false_iff_eq, beq_iff_eq, beq_eq_false_iff_ne, true_and, and_true, Int.not_lt, Int.not_le, ne_eq, not_false_eq_true, implies_true, forall_const, gt_iff_lt, ge_iff_le]
    simp only [L_r27_section_6, Wp_some, Wp_gd, Wp_cond, Wp_bd, Wp_bnd, Wp_bindE, Sum.elim_inl, Sum.elim_inr, condO, condA, decide_eq_true_eq, decide_eq_false_iff_not, Bool.or_eq_true, Bool.or_eq_false_iff, Bool.and_eq_true, Bool.and_eq_false_iff, Bool.not_eq_true', Bool.not_eq_false', bne_iff_ne, bne_eq_false_iff_eq, beq_iff_eq, beq_eq_false_iff_ne, true_and, and_true, Int.not_lt, Int.not_le, ne_eq, not_false_eq_true, implies_true, forall_const, gt_iff_lt, ge_iff_le, List.length_append, List.length_cons, List.length_nil]
    rw [w64 (x := i + 1) (by omega)]
    exact ⟨fun hi => ⟨⟨k1, hi⟩, hN.mono fun r _ => by omega⟩, fun hi => by omega⟩
  have hD : Wp (bindE (loop (L_r27_section_6 l k) (0, ([] : List Int))) fun j5 => bnd (F_r27_column j5) fun r13 => some r13) fun r => r.length ≤ 137438953472 := by
    simp only [Wp_some, Wp_gd, Wp_cond, Wp_bd, Wp_bnd, Wp_bindE, Sum.elim_inl, Sum.elim_inr, condO, condA, decide_eq_true_eq, decide_eq_false_iff_not, Bool.or_eq_true, Bool.or_eq_false_iff, Bool.and_eq_true, Bool.and_eq_false_iff, Bool.not_eq_true', Bool.not_eq_false', bne_iff_ne, bne_eq_false_iff_eq, beq_iff_eq, beq_eq_false_iff_ne, true_and, and_true, Int.not_lt, Int.not_le, ne_eq, not_false_eq_true, implies_true, forall_const, gt_iff_lt, ge_iff_le]
    refine hC.mono fun r hr => ?_
    cases r with
    | inl s => exact (column_W (by have : s.length ≤ 150 := hr; omega)).mono fun r h => by omega
    | inr r => exact hr
  unfold F_r27_section
  rw [Wp_bindE, Wp_cond]
  have hK : ∀ b : Bool, Wp (cond b (bindE (σ := List ByteArray) (loop (L_r27_section_3 l k) (0, ([] : List ByteArray))) fun j2 => bnd (F_r27_indexed j2) fun r5 => some r5) (cond (k == 9) (bnd (F_r27_lines l) fun r6 => some r6) (cond (k == 10) (bnd (F_r27_fields l) fun r7 => some r7) (cond (k == 11) (bnd (F_r27_index l) fun r8 => some r8) (cond (k == 12) (bnd (F_r27_filter l) fun r9 => some r9) (bindE (σ := List Int) (loop (L_r27_section_6 l k) (0, ([] : List Int))) fun j5 => bnd (F_r27_column j5) fun r13 => some r13)))))) fun r => r.length ≤ 137438953472 := by
    intro b
    simp only [Wp_cond]
    refine ⟨fun _ => hI, fun _ => ⟨fun _ => ?_, fun _ => ⟨fun _ => ?_, fun _ => ⟨fun _ => ?_, fun _ => ⟨fun _ => ?_, fun _ => hD⟩⟩⟩⟩⟩
    · rw [Wp_bnd]; exact (lines_W h hn).mono fun r hr => by rw [Wp_some]; omega
    · rw [Wp_bnd]; exact (fields_W h hn).mono fun r hr => by rw [Wp_some]; omega
    · rw [Wp_bnd]; exact (index_W h hn).mono fun r hr => by rw [Wp_some]; omega
    · rw [Wp_bnd]; exact (filter_W h hn).mono fun r hr => by rw [Wp_some]; omega
  exact ⟨fun _ => by rw [Wp_some]; exact hK _, fun _ => by rw [Wp_some]; exact hK _⟩

theorem Encode27_W {l : List S_Event} {n : Int} (h : EvsOk l n) (hn : n ≤ 150) : Wp (F_r27_Encode l) fun r => r.2 = 0 ∧ 124 ≤ r.1.length ∧ r.1.length ≤ 2199023255552 := by
  have hlen := h.len
  simp only [F_r27_Encode, Wp_some, Wp_gd, Wp_cond, Wp_bd, Wp_bnd, Wp_bindE, Sum.elim_inl, Sum.elim_inr, condO, condA, decide_eq_true_eq, decide_eq_false_iff_not, Bool.or_eq_true, Bool.or_eq_false_iff, Bool.and_eq_true, Bool.and_eq_false_iff, Bool.not_eq_true', Bool.not_eq_false', bne_iff_ne, bne_eq_false_iff_eq, beq_iff_eq, beq_eq_false_iff_ne, true_and, and_true, Int.not_lt, Int.not_le, ne_eq, not_false_eq_true, implies_true, forall_const, gt_iff_lt, ge_iff_le, List.length_append]
  refine (Check27_W h hn).mono fun r1 h1 => ⟨fun q => absurd h1 q, fun _ => ?_⟩
  have fin : ∀ t u : Int, Wp (F_r27_Put [76, 84, 83, 49] (IntKind.wrap .u64 (l.length : Int)) 4) fun r => Wp (F_r27_Put r (IntKind.wrap .u64 t) 8) fun r => Wp (F_r27_Put r (IntKind.wrap .u64 u) 8) fun r => Wp (loop (L_r27_Encode_3 l) (1, r, ([] : List Int))) (Sum.elim (fun s => Wp (F_r27_Crc s.1) fun r => Wp (F_r27_Put s.1 (IntKind.wrap .u64 r) 4) fun r => (r.length + s.2.length) * 1 ≤ 140737488355328 ∧ 124 ≤ r.length + s.2.length ∧ r.length + s.2.length ≤ 2199023255552) fun r => r.2 = 0 ∧ 124 ≤ r.1.length ∧ r.1.length ≤ 2199023255552) := by
    intro t u
    refine (Put_W (by decide) (by decide)).mono fun r4 h4 => ?_
    refine (Put_W (by decide) (by rw [h4]; decide)).mono fun r5 h5 => ?_
    refine (Put_W (by decide) (by rw [h5, h4]; decide)).mono fun r6 h6 => ?_
    have h6 : r6.length = 24 := by rw [h6, h5, h4]; rfl
    refine Wp_loop (fun j => 1 ≤ j.1 ∧ j.1 ≤ 13 ∧ (j.2.1.length : Int) = 16 + 8 * j.1 ∧ (j.2.2.length : Int) ≤ 137438953472 * (j.1 - 1)) (fun j => (13 - j.1).toNat) ⟨Int.le_refl _, by show (1 : Int) ≤ 13; decide, by show (r6.length : Int) = 16 + 8 * 1; omega, Int.le_refl _⟩ ?_
    rintro ⟨k, a, b⟩ ⟨k1, k2, k3, k4⟩
    dsimp only at k1 k2 k3 k4
    simp only [L_r27_Encode_3, Wp_some, Wp_gd, Wp_cond, Wp_bd, Wp_bnd, Wp_bindE, Sum.elim_inl, Sum.elim_inr, condO, condA, decide_eq_true_eq, decide_eq_false_iff_not, Bool.or_eq_true, Bool.or_eq_false_iff, Bool.and_eq_true, Bool.and_eq_false_iff, Bool.not_eq_true', Bool.not_eq_false', bne_iff_ne, bne_eq_false_iff_eq, beq_iff_eq, beq_eq_false_iff_ne, true_and, and_true, Int.not_lt, Int.not_le, ne_eq, not_false_eq_true, implies_true, forall_const, gt_iff_lt, ge_iff_le, List.length_append]
    rw [w64 (x := k + 1) (by omega)]
    refine ⟨fun hk => ?_, fun hk => ?_⟩
    · refine (section_W h hn).mono fun r7 h7 => ?_
      refine (Put_W (by decide) (by omega)).mono fun r8 h8 => ?_
      refine (Crc_W (by omega)).mono fun r9 h9 => ?_
      refine (Put_W (by decide) (by omega)).mono fun r10 h10 => ?_
      have e8 : Int.toNat 4 = 4 := rfl
      omega
    · refine (Crc_W (by omega)).mono fun r12 h12 => ?_
      refine (Put_W (by decide) (by omega)).mono fun r13 h13 => ?_
      have e8 : Int.toNat 4 = 4 := rfl
      omega
  refine ⟨fun hp => ⟨by omega, ?_, fin _ _⟩, fun _ => fin _ _⟩
  rw [w64 (x := (l.length : Int) - 1) (by omega)]
  omega
end Go.Abs
