/- DERIVED. Plain laws, part 0: what a plain function comes to: weakest preconditions of the words gd, cond, bd, bnd, bindE, loop, eqn, iter. -/
import Derived.Test.YtlhiaclmbegaiaaGreatF9
set_option linter.unusedVariables false
set_option linter.unusedSimpArgs false
namespace Go.Abs
open Go

/-- m has a value, and R holds of it. -/
def Wp {α : Type} (m : Option α) (R : α → Prop) : Prop := ∃ r, m = some r ∧ R r
theorem Wp.mono {α : Type} {m : Option α} {R R' : α → Prop} (h : Wp m R) (k : ∀ r, R r → R' r) : Wp m R' := by
  obtain ⟨r, h1, h2⟩ := h
  exact ⟨r, h1, k r h2⟩
theorem Wp_some {α : Type} {x : α} {R : α → Prop} : Wp (some x) R = R x := by
  refine propext ⟨?_, fun h => ⟨x, rfl, h⟩⟩
  rintro ⟨r, h1, h2⟩
  cases h1
  exact h2
theorem Wp_gd {α : Type} {p : Prop} [Decidable p] {m : Option α} {R : α → Prop} : Wp (gd p m) R = (p ∧ Wp m R) := by
  unfold gd
  by_cases h : p
  · simp [h]
  · simp [h, Wp]
theorem Wp_cond {α : Type} {b : Bool} {m n : Option α} {R : α → Prop} : Wp (cond b m n) R = ((b = true → Wp m R) ∧ (b = false → Wp n R)) := by
  cases b <;> simp
theorem Wp_bd {α β : Type} {x : α} {f : α → Option β} {R : β → Prop} : Wp (bd x f) R = Wp (f x) R := rfl
theorem Wp_bnd {α β : Type} {m : Option α} {f : α → Option β} {R : β → Prop} : Wp (bnd m f) R = Wp m fun r => Wp (f r) R := by
  cases m with
  | none => simp [bnd_eq, Wp]
  | some r => simp [bnd_eq, Wp]
theorem Wp_bindE {σ ρ : Type} {m : Option (σ ⊕ ρ)} {f : σ → Option ρ} {R : ρ → Prop} : Wp (bindE m f) R = Wp m (Sum.elim (fun s => Wp (f s) R) R) := by
  cases m with
  | none => simp [bindE, Wp]
  | some r => cases r <;> simp [bindE, Wp]
theorem Wp_eqn {β : Type} {n : Nat} {k : Bool → Option β} {R : β → Prop} (h : n = 0 → k true = k false) (h2 : Wp (k false) R) : Wp (eqn n k) R := by
  unfold eqn
  split
  · rename_i hn
    rw [if_pos (h hn)]
    exact h2
  · exact h2
theorem Wp_loop {σ ρ : Type} {f : σ → Option (σ ⊕ ρ)} {R : ρ → Prop} (I : σ → Prop) (μ : σ → Nat) {s : σ} (hs : I s)
    (h : ∀ s, I s → Wp (f s) (Sum.elim (fun s' => I s' ∧ μ s' < μ s) R)) : Wp (loop f s) R := by
  generalize hn : μ s = n
  induction n using Nat.strongRecOn generalizing s with
  | ind n ih =>
    obtain ⟨r, h1, h2⟩ := h s hs
    rw [loop_eq, h1]
    cases r with
    | inl s' => exact ih (μ s') (by have := h2.2; omega) h2.1 rfl
    | inr r => exact ⟨r, rfl, h2⟩
theorem Wp_of {α : Type} {m : Option α} {x : α} {R : α → Prop} (h : m = some x) (k : R x) : Wp m R := ⟨x, h, k⟩
theorem Wp.eq {α : Type} {m : Option α} {x : α} (h : Wp m fun r => r = x) : m = some x := by
  obtain ⟨r, h1, h2⟩ := h
  rw [h1, h2]
theorem Wp.and {α : Type} {m : Option α} {R R' : α → Prop} (h : Wp m R) (k : Wp m R') : Wp m fun r => R r ∧ R' r := by
  obtain ⟨r, h1, h2⟩ := h
  obtain ⟨r', k1, k2⟩ := k
  rw [h1] at k1
  cases k1
  exact ⟨r, h1, h2, k2⟩

theorem condO {a b : Bool} : cond a true b = (a || b) := by cases a <;> rfl
theorem condA {a b : Bool} : cond a b false = (a && b) := by cases a <;> rfl

theorem wrap64 (x : Int) : IntKind.wrap .i64 x = (x + 9223372036854775808) % 18446744073709551616 - 9223372036854775808 := by
  show (if (true && decide (x % (2 ^ 64 : Int) ≥ (2 ^ 63 : Int))) = true then x % (2 ^ 64 : Int) - (2 ^ 64 : Int) else x % (2 ^ 64 : Int)) = _
  simp only [Bool.true_and, decide_eq_true_eq]
  split <;> omega
theorem w64 {x : Int} (h : -9223372036854775808 ≤ x ∧ x < 9223372036854775808) : IntKind.wrap .i64 x = x := by
  rw [wrap64]
  omega
theorem wrapU (k : IntKind) (hk : k.signed = false) (x : Int) : IntKind.wrap k x = x % (2 ^ k.bits : Int) := by
  show (if (k.signed && decide (x % (2 ^ k.bits : Int) ≥ (2 ^ (k.bits - 1) : Int))) = true then _ else _) = _
  rw [hk]
  simp
theorem wU8 (x : Int) : IntKind.wrap .u8 x = x % 256 := wrapU .u8 rfl x
theorem wU32 (x : Int) : IntKind.wrap .u32 x = x % 4294967296 := wrapU .u32 rfl x
theorem wU64 (x : Int) : IntKind.wrap .u64 x = x % 18446744073709551616 := wrapU .u64 rfl x
theorem w64_range (x : Int) : -9223372036854775808 ≤ IntKind.wrap .i64 x ∧ IntKind.wrap .i64 x < 9223372036854775808 := by
  rw [wrap64]
  omega
theorem getD_get {α : Type} {l : List α} {i : Nat} {d : α} (h : i < l.length) : l.getD i d = l[i] := by
  rw [List.getD, List.getElem?_eq_getElem h]
  rfl
theorem getD_mem {α : Type} {l : List α} {i : Nat} {d : α} (h : i < l.length) : l.getD i d ∈ l := by
  simp [List.getD, h]
theorem getD_all {α : Type} {l : List α} {i : Nat} {d : α} {R : α → Prop} (hl : ∀ x ∈ l, R x) (h : i < l.length) : R (l.getD i d) := hl _ (getD_mem h)
theorem getD_int {α : Type} {l : List α} {i : Int} {d : α} {R : α → Prop} (hl : ∀ x ∈ l, R x) (h : 0 ≤ i ∧ i < (l.length : Int)) : R (l.getD i.toNat d) := hl _ (getD_mem (by omega))

/-! ### Draws -/
def Cw (c : S_draw_Codes) : Prop := 0 ≤ c.x_at ∧ c.x_list.length ≤ 500 ∧ (c.x_at ≤ c.x_list.length) ∧ ∀ x ∈ c.x_list, 0 ≤ x ∧ x < 256

theorem Next_W {c : S_draw_Codes} {n : Int} (hc : Cw c) (hn : 1 ≤ n ∧ n ≤ 1099511627776) : Wp (F_draw_Codes_Next c n) fun r => (0 ≤ r.1 ∧ r.1 < n) ∧ Cw r.2 := by
  obtain ⟨h1, h2, h3, h4⟩ := hc
  simp only [F_draw_Codes_Next, F_draw_Codes_Left, Wp_some, Wp_gd, Wp_cond, Wp_bd, Wp_bnd, Wp_bindE, Sum.elim_inl, Sum.elim_inr, condO, condA, decide_eq_true_eq, decide_eq_false_iff_not, Bool.or_eq_true, Bool.or_eq_false_iff, Bool.and_eq_true, Bool.and_eq_false_iff, Bool.not_eq_true', Bool.not_eq_false', bne_iff_ne, bne_eq_false_iff_eq, beq_iff_eq, beq_eq_false_iff_ne, true_and, and_true, Int.not_lt, Int.not_le, ne_eq, not_false_eq_true, implies_true, forall_const, gt_iff_lt, ge_iff_le]
  constructor
  · rintro _
    exact ⟨⟨Int.le_refl _, by omega⟩, h1, h2, h3, h4⟩
  · rintro hx
    have hx2 : c.x_at < (c.x_list.length : Int) := by omega
    refine ⟨⟨h1, hx2⟩, ?_⟩
    have hv := getD_int (d := default) (R := fun x => 0 ≤ x ∧ x < 256) h4 ⟨h1, hx2⟩
    generalize hg : c.x_list.getD c.x_at.toNat default = v at *
    have hm : 0 ≤ v * n ∧ v * n ≤ 255 * n := ⟨Int.mul_nonneg hv.1 (by omega), Int.mul_le_mul_of_nonneg_right (by omega) (by omega)⟩
    generalize hp : v * n = p at *
    rw [w64 (x := v) (by omega), hp, w64 (x := p) (by omega), Int.tdiv_eq_ediv_of_nonneg (by omega), w64 (x := p / 256) (by omega), w64 (x := c.x_at + 1) (by omega)]
    exact ⟨⟨by omega, by omega⟩, by show 0 ≤ c.x_at + 1; omega, h2, by show c.x_at + 1 ≤ (c.x_list.length : Int); omega, h4⟩
end Go.Abs
