/- DERIVED. Plain laws, part 3: the order of strings; the different strings of a list; the index of a string. -/
import Derived.Test.YtlhiaclmbegaiaaGreatP2
set_option linter.unusedVariables false
set_option linter.unusedSimpArgs false
namespace Go.Abs
open Go

theorem bl_irrefl : ∀ x : List UInt8, Op.bytesLess x x = false
  | [] => rfl
  | a :: x => by
    have := bl_irrefl x
    have h : ¬ a < a := by simp
    simp [Op.bytesLess, this, h]
theorem bl_trans : ∀ {x y z : List UInt8}, Op.bytesLess x y = true → Op.bytesLess y z = true → Op.bytesLess x z = true
  | _, _, [], _, h => by simp [Op.bytesLess] at h
  | [], _, _ :: _, _, _ => rfl
  | _ :: _, [], _ :: _, h, _ => by simp [Op.bytesLess] at h
  | a :: x, b :: y, c :: z, h, k => by
    simp only [Op.bytesLess, Bool.or_eq_true, decide_eq_true_eq, Bool.and_eq_true, beq_iff_eq] at h k ⊢
    rcases h with h | ⟨h1, h2⟩
    · rcases k with k | ⟨k1, k2⟩
      · exact .inl (UInt8.lt_trans h k)
      · exact .inl (k1 ▸ h)
    · rcases k with k | ⟨k1, k2⟩
      · exact .inl (h1 ▸ k)
      · exact .inr ⟨h1.trans k1, bl_trans h2 k2⟩
theorem bl_total : ∀ x y : List UInt8, Op.bytesLess x y = true ∨ x = y ∨ Op.bytesLess y x = true
  | [], [] => .inr (.inl rfl)
  | [], _ :: _ => .inl rfl
  | _ :: _, [] => .inr (.inr rfl)
  | a :: x, b :: y => by
    simp only [Op.bytesLess, Bool.or_eq_true, decide_eq_true_eq, Bool.and_eq_true, beq_iff_eq]
    rcases bl_total x y with h | h | h
    · by_cases e : a = b
      · exact .inl (.inr ⟨e, h⟩)
      · have : a < b ∨ b < a := by
          have e' : ¬ a.toNat = b.toNat := fun q => e (UInt8.toNat_inj.1 q)
          simp only [UInt8.lt_iff_toNat_lt]
          omega
        exact this.elim (fun q => .inl (.inl q)) fun q => .inr (.inr (.inl q))
    · subst h
      by_cases e : a = b
      · subst e
        exact .inr (.inl rfl)
      · have : a < b ∨ b < a := by
          have e' : ¬ a.toNat = b.toNat := fun q => e (UInt8.toNat_inj.1 q)
          simp only [UInt8.lt_iff_toNat_lt]
          omega
        exact this.elim (fun q => .inl (.inl q)) fun q => .inr (.inr (.inl q))
    · by_cases e : a = b
      · exact .inr (.inr (.inr ⟨e.symm, h⟩))
      · have : a < b ∨ b < a := by
          have e' : ¬ a.toNat = b.toNat := fun q => e (UInt8.toNat_inj.1 q)
          simp only [UInt8.lt_iff_toNat_lt]
          omega
        exact this.elim (fun q => .inl (.inl q)) fun q => .inr (.inr (.inl q))

def sLt (a b : ByteArray) : Prop := Op.bytesLess a.toList b.toList = true
theorem sLt.trans {a b c : ByteArray} (h : sLt a b) (k : sLt b c) : sLt a c := bl_trans h k
theorem sLt.irrefl {a : ByteArray} (h : sLt a a) : False := by
  have := bl_irrefl a.toList
  unfold sLt at h
  simp [this] at h
theorem sLt.eqL {a b c : ByteArray} (h : sLt a b) (e : c.toList = a.toList) : sLt c b := by
  unfold sLt at *
  rw [e]
  exact h
def Din (x : ByteArray) (l : List ByteArray) : Prop := ∃ y ∈ l, y.toList = x.toList

theorem drop_getD {α : Type} {l : List α} {i : Int} {d : α} (h : 0 ≤ i ∧ i < (l.length : Int)) : l.drop i.toNat = l.getD i.toNat d :: l.drop (i + 1).toNat := by
  have hn : i.toNat < l.length := by omega
  rw [getD_get hn, List.drop_eq_getElem_cons hn]
  congr 2
  omega
theorem take_getD {α : Type} {l : List α} {i : Int} {d : α} (h : 0 ≤ i ∧ i < (l.length : Int)) : l.take (i + 1).toNat = l.take i.toNat ++ [l.getD i.toNat d] := by
  have hn : i.toNat < l.length := by omega
  rw [getD_get hn, show (i + 1).toNat = i.toNat + 1 by omega, List.take_add_one, List.getElem?_eq_getElem hn]
  rfl

structure UI (p0 p1 : List ByteArray) (i k : Int) (out : List ByteArray) : Prop where
  i0 : 0 ≤ i ∧ i ≤ (p0.length : Int)
  k0 : 0 ≤ k ∧ k ≤ (p1.length : Int)
  srt : out.Pairwise sLt
  d0 : ∀ y ∈ out, ∀ x ∈ p0.drop i.toNat, sLt y x
  d1 : ∀ y ∈ out, ∀ x ∈ p1.drop k.toNat, sLt y x
  c0 : ∀ x ∈ p0.take i.toNat, Din x out
  c1 : ∀ x ∈ p1.take k.toNat, Din x out
  s : ∀ y ∈ out, y ∈ p0 ∨ y ∈ p1
  len : (out.length : Int) ≤ i + k
theorem UI.swap {p0 p1 : List ByteArray} {i k : Int} {out : List ByteArray} (h : UI p0 p1 i k out) : UI p1 p0 k i out :=
  ⟨h.k0, h.i0, h.srt, h.d1, h.d0, h.c1, h.c0, fun y hy => (h.s y hy).symm, by have := h.len; omega⟩
theorem UI.step {p0 p1 : List ByteArray} {i k : Int} {out : List ByteArray} (h : UI p0 p1 i k out) (hs : p0.Pairwise sLt) (hi : i < (p0.length : Int)) (hz : ∀ x ∈ p1.drop k.toNat, sLt (p0.getD i.toNat default) x) :
    UI p0 p1 (i + 1) k (out ++ [p0.getD i.toNat default]) := by
  have hd := drop_getD (d := (default : ByteArray)) ⟨h.i0.1, hi⟩
  have hp := hs.sublist (List.drop_sublist i.toNat p0)
  rw [hd] at hp
  have hp := List.pairwise_cons.1 hp
  have hm := getD_mem (d := (default : ByteArray)) (l := p0) (i := i.toNat) (by have := h.i0; omega)
  refine ⟨by have := h.i0; omega, h.k0, ?_, ?_, ?_, ?_, ?_, ?_, ?_⟩
  · refine List.pairwise_append.2 ⟨h.srt, by simp, fun a ha b hb => ?_⟩
    simp only [List.mem_singleton] at hb
    subst hb
    exact h.d0 a ha _ (by rw [hd]; exact List.mem_cons_self)
  · intro y hy x hx
    rcases List.mem_append.1 hy with hy | hy
    · exact h.d0 y hy x (by rw [hd]; exact List.mem_cons_of_mem _ hx)
    · simp only [List.mem_singleton] at hy
      subst hy
      exact hp.1 x hx
  · intro y hy x hx
    rcases List.mem_append.1 hy with hy | hy
    · exact h.d1 y hy x hx
    · simp only [List.mem_singleton] at hy
      subst hy
      exact hz x hx
  · intro x hx
    rw [take_getD (d := (default : ByteArray)) ⟨h.i0.1, hi⟩] at hx
    rcases List.mem_append.1 hx with hx | hx
    · obtain ⟨y, h1, h2⟩ := h.c0 x hx
      exact ⟨y, List.mem_append_left _ h1, h2⟩
    · simp only [List.mem_singleton] at hx
      subst hx
      exact ⟨_, List.mem_append_right _ (List.mem_singleton_self _), rfl⟩
  · intro x hx
    obtain ⟨y, h1, h2⟩ := h.c1 x hx
    exact ⟨y, List.mem_append_left _ h1, h2⟩
  · intro y hy
    rcases List.mem_append.1 hy with hy | hy
    · exact h.s y hy
    · simp only [List.mem_singleton] at hy
      subst hy
      exact .inl hm
  · have := h.len
    simp only [List.length_append, List.length_cons, List.length_nil]
    omega
theorem UI.both {p0 p1 : List ByteArray} {i k : Int} {out : List ByteArray} (h : UI p0 p1 i k out) (hs : p0.Pairwise sLt) (hs1 : p1.Pairwise sLt) (hi : i < (p0.length : Int)) (hk : k < (p1.length : Int)) (he : (p0.getD i.toNat default).toList = (p1.getD k.toNat default).toList) :
    UI p0 p1 (i + 1) (k + 1) (out ++ [p0.getD i.toNat default]) := by
  have hd := drop_getD (d := (default : ByteArray)) ⟨h.k0.1, hk⟩
  have hp := hs1.sublist (List.drop_sublist k.toNat p1)
  rw [hd] at hp
  have hp := List.pairwise_cons.1 hp
  have hd0 := drop_getD (d := (default : ByteArray)) ⟨h.i0.1, hi⟩
  have hp0 := hs.sublist (List.drop_sublist i.toNat p0)
  rw [hd0] at hp0
  have hp0 := List.pairwise_cons.1 hp0
  have hm := getD_mem (d := (default : ByteArray)) (l := p0) (i := i.toNat) (by have := h.i0; omega)
  refine ⟨by have := h.i0; omega, by have := h.k0; omega, ?_, ?_, ?_, ?_, ?_, ?_, ?_⟩
  · refine List.pairwise_append.2 ⟨h.srt, by simp, fun a ha b hb => ?_⟩
    simp only [List.mem_singleton] at hb
    subst hb
    exact h.d0 a ha _ (by rw [hd0]; exact List.mem_cons_self)
  · intro y hy x hx
    rcases List.mem_append.1 hy with hy | hy
    · exact h.d0 y hy x (by rw [hd0]; exact List.mem_cons_of_mem _ hx)
    · simp only [List.mem_singleton] at hy
      subst hy
      exact hp0.1 x hx
  · intro y hy x hx
    rcases List.mem_append.1 hy with hy | hy
    · exact h.d1 y hy x (by rw [hd]; exact List.mem_cons_of_mem _ hx)
    · simp only [List.mem_singleton] at hy
      subst hy
      exact (hp.1 x hx).eqL he
  · intro x hx
    rw [take_getD (d := (default : ByteArray)) ⟨h.i0.1, hi⟩] at hx
    rcases List.mem_append.1 hx with hx | hx
    · obtain ⟨y, h1, h2⟩ := h.c0 x hx
      exact ⟨y, List.mem_append_left _ h1, h2⟩
    · simp only [List.mem_singleton] at hx
      subst hx
      exact ⟨_, List.mem_append_right _ (List.mem_singleton_self _), rfl⟩
  · intro x hx
    rw [take_getD (d := (default : ByteArray)) ⟨h.k0.1, hk⟩] at hx
    rcases List.mem_append.1 hx with hx | hx
    · obtain ⟨y, h1, h2⟩ := h.c1 x hx
      exact ⟨y, List.mem_append_left _ h1, h2⟩
    · simp only [List.mem_singleton] at hx
      subst hx
      exact ⟨_, List.mem_append_right _ (List.mem_singleton_self _), he⟩
  · intro y hy
    rcases List.mem_append.1 hy with hy | hy
    · exact h.s y hy
    · simp only [List.mem_singleton] at hy
      subst hy
      exact .inl hm
  · have := h.len
    simp only [List.length_append, List.length_cons, List.length_nil]
    omega

structure Dis (p r : List ByteArray) : Prop where
  srt : r.Pairwise sLt
  len : r.length ≤ p.length
  c : ∀ x ∈ p, Din x r
  s : ∀ y ∈ r, y ∈ p

theorem drop_lt {p : List ByteArray} {k : Int} {z : ByteArray} (hs : p.Pairwise sLt) (hk : 0 ≤ k ∧ k < (p.length : Int)) (h : sLt z (p.getD k.toNat default)) : ∀ x ∈ p.drop k.toNat, sLt z x := by
  have hd := drop_getD (d := (default : ByteArray)) hk
  have hp := hs.sublist (List.drop_sublist k.toNat p)
  rw [hd] at hp ⊢
  have hp := List.pairwise_cons.1 hp
  intro x hx
  rcases List.mem_cons.1 hx with hx | hx
  · subst hx
    exact h
  · exact h.trans (hp.1 x hx)

theorem union_W {p0 p1 : List ByteArray} (h0 : p0.Pairwise sLt) (h1 : p1.Pairwise sLt) (hl : p0.length + p1.length ≤ 1099511627776) :
    Wp (F_r23_union p0 p1) fun r => UI p0 p1 (p0.length : Int) (p1.length : Int) r.1 := by
  simp only [F_r23_union, Wp_some, Wp_gd, Wp_cond, Wp_bd, Wp_bnd, Wp_bindE, Sum.elim_inl, Sum.elim_inr, condO, condA, decide_eq_true_eq, decide_eq_false_iff_not, Bool.or_eq_true, Bool.or_eq_false_iff, Bool.and_eq_true, Bool.and_eq_false_iff, Bool.not_eq_true', Bool.not_eq_false', bne_iff_ne, bne_eq_false_iff_eq, beq_iff_eq, beq_eq_false_iff_ne, true_and, and_true, Int.not_lt, Int.not_le, ne_eq, not_false_eq_true, implies_true, forall_const, gt_iff_lt, ge_iff_le]
  refine Wp_loop (fun j => UI p0 p1 j.1 j.2.1 j.2.2.1 ∧ j.2.2.2.1.length ≤ j.2.2.1.length ∧ j.2.2.2.2.length ≤ j.2.2.1.length) (fun j => ((p0.length : Int) + p1.length - j.1 - j.2.1).toNat)
    ⟨⟨⟨Int.le_refl _, by show (0 : Int) ≤ _; omega⟩, ⟨Int.le_refl _, by show (0 : Int) ≤ _; omega⟩, by simp, by simp, by simp, by simp, by simp, by simp, by simp⟩, Nat.le_refl _, Nat.le_refl _⟩ ?_
  rintro ⟨i, k, out, a, b⟩ ⟨u, ha, hb⟩
  dsimp only at u ha hb
  have i0 := u.i0
  have k0 := u.k0
  have hlen := u.len
  simp only [L_r23_union_2, Wp_some, Wp_gd, Wp_cond, Wp_bd, Wp_bnd, Wp_bindE, Sum.elim_inl, Sum.elim_inr, condO, condA, decide_eq_true_eq, decide_eq_false_iff_not, Bool.or_eq_true, Bool.or_eq_false_iff, Bool.and_eq_true, Bool.and_eq_false_iff, Bool.not_eq_true', Bool.not_eq_false', bne_iff_ne, bne_eq_false_iff_eq, beq_iff_eq, beq_eq_false_iff_ne, true_and, and_true, Int.not_lt, Int.not_le, ne_eq, not_false_eq_true, implies_true, forall_const, gt_iff_lt, ge_iff_le, List.length_append, List.length_cons, List.length_nil]
  rw [w64 (x := i + 1) (by omega), w64 (x := k + 1) (by omega)]
  refine ⟨fun hc => ⟨fun h => by omega, fun h => by omega, fun h3 => ?_, fun h3 => ⟨fun h => by omega, fun h => by omega, fun h4 => ?_, fun h4 => ?_⟩⟩, fun hc => ?_⟩
  · have hi : i < (p0.length : Int) := by omega
    refine ⟨by omega, by omega, by omega, ⟨u.step h0 hi ?_, by omega, by omega⟩, by omega⟩
    by_cases hk : k = (p1.length : Int)
    · subst hk
      simp
    · exact drop_lt h1 (by omega) (h3.resolve_left hk).2
  · have hk : k < (p1.length : Int) := by omega
    refine ⟨by omega, by omega, by omega, ⟨(u.swap.step h1 hk ?_).swap, by omega, by omega⟩, by omega⟩
    by_cases hi : i = (p0.length : Int)
    · subst hi
      simp
    · exact drop_lt h0 (by omega) (h4.resolve_left hi)
  · have hk : k < (p1.length : Int) := by omega
    have hi : i < (p0.length : Int) := by omega
    refine ⟨by omega, by omega, by omega, by omega, ⟨u.both h0 h1 hi hk ?_, by omega, by omega⟩, by omega⟩
    have n1 : Op.bytesLess (p0.getD i.toNat default).toList (p1.getD k.toNat default).toList = false := (h3.2).resolve_left (by omega)
    rcases bl_total (p0.getD i.toNat default).toList (p1.getD k.toNat default).toList with q | q | q
    · rw [q] at n1
      cases n1
    · exact q
    · rw [q] at h4
      exact absurd h4.2 (by simp)
  · have e1 : i = (p0.length : Int) := by omega
    have e2 : k = (p1.length : Int) := by omega
    subst e1
    subst e2
    exact u

theorem Distinct_W {p : List ByteArray} (hl : p.length ≤ 1099511627776) : Wp (F_r23_Distinct p) (Dis p) := by
  have key : ∀ n (p : List ByteArray), p.length ≤ 1099511627776 → p.length < n → Wp (iter B_r23_Distinct n p) (Dis p) := by
    intro n
    induction n with
    | zero => intro p _ h; omega
    | succ n ih =>
      intro p hl hn
      simp only [iter, B_r23_Distinct, Wp_some, Wp_gd, Wp_cond, Wp_bd, Wp_bnd, Wp_bindE, Sum.elim_inl, Sum.elim_inr, condO, condA, decide_eq_true_eq, decide_eq_false_iff_not, Bool.or_eq_true, Bool.or_eq_false_iff, Bool.and_eq_true, Bool.and_eq_false_iff, Bool.not_eq_true', Bool.not_eq_false', bne_iff_ne, bne_eq_false_iff_eq, beq_iff_eq, beq_eq_false_iff_ne, true_and, and_true, Int.not_lt, Int.not_le, ne_eq, not_false_eq_true, implies_true, forall_const, gt_iff_lt, ge_iff_le]
      refine ⟨fun h2 => ⟨by simp only [List.length_nil]; omega, ?_⟩, fun h2 => ?_⟩
      · rw [List.nil_append]
        refine ⟨?_, Nat.le_refl _, fun x hx => ⟨x, hx, rfl⟩, fun y hy => hy⟩
        match p, h2 with
        | [], _ => simp
        | [x], _ => simp
        | x :: y :: l, h2 => simp only [List.length_cons] at h2; omega
      · rw [show Int.tdiv (p.length : Int) 2 = (p.length : Int) / 2 from Int.tdiv_eq_ediv_of_nonneg (by omega), w64 (x := (p.length : Int) / 2) (by omega)]
        rw [sub_take, sub_drop]
        refine ⟨by omega, (ih _ (by simp; omega) (by simp; omega)).mono fun r3 d3 => ⟨by omega, (ih _ (by simp; omega) (by simp; omega)).mono fun r5 d5 => ?_⟩⟩
        have l3 := d3.len
        have l5 := d5.len
        simp only [List.length_take, List.length_drop] at l3 l5
        refine (union_W d3.srt d5.srt (by omega)).mono fun r6 u => ⟨u.srt, by have := u.len; omega, fun x hx => ?_, fun y hy => ?_⟩
        · have c0 := u.c0
          have c1 := u.c1
          simp only [Int.toNat_natCast, List.take_length] at c0 c1
          rw [← List.take_append_drop ((p.length : Int) / 2).toNat p] at hx
          rcases List.mem_append.1 hx with hx | hx
          · obtain ⟨z, z1, z2⟩ := d3.c x hx
            obtain ⟨y, y1, y2⟩ := c0 z z1
            exact ⟨y, y1, y2.trans z2⟩
          · obtain ⟨z, z1, z2⟩ := d5.c x hx
            obtain ⟨y, y1, y2⟩ := c1 z z1
            exact ⟨y, y1, y2.trans z2⟩
        · rcases u.s y hy with h | h
          · exact List.mem_of_mem_take (d3.s y h)
          · exact List.mem_of_mem_drop (d5.s y h)
  exact key _ p hl (Nat.lt_succ_self _)

theorem sorted_lt {l : List ByteArray} (h : l.Pairwise sLt) {i j : Nat} (hi : i < l.length) (hj : j < l.length) (hl : sLt l[i] l[j]) : i < j := by
  rcases Nat.lt_trichotomy i j with q | q | q
  · exact q
  · subst q
    exact (hl.irrefl).elim
  · exact ((hl.trans (List.pairwise_iff_getElem.1 h j i hj hi q)).irrefl).elim

theorem Index_W {l : List ByteArray} {x : ByteArray} (hs : l.Pairwise sLt) (hl : l.length ≤ 1099511627776) :
    Wp (F_r23_Index l x) fun r => 0 ≤ r.1 ∧ r.1 ≤ (l.length : Int) ∧ (Din x l → r.1 < (l.length : Int)) := by
  simp only [F_r23_Index, Wp_some, Wp_gd, Wp_cond, Wp_bd, Wp_bnd, Wp_bindE, Sum.elim_inl, Sum.elim_inr, condO, condA, decide_eq_true_eq, decide_eq_false_iff_not, Bool.or_eq_true, Bool.or_eq_false_iff, Bool.and_eq_true, Bool.and_eq_false_iff, Bool.not_eq_true', Bool.not_eq_false', bne_iff_ne, bne_eq_false_iff_eq, beq_iff_eq, beq_eq_false_iff_ne, true_and, and_true, Int.not_lt, Int.not_le, ne_eq, not_false_eq_true, implies_true, forall_const, gt_iff_lt, ge_iff_le]
  refine Wp_loop (fun j => 0 ≤ j.1 ∧ j.1 ≤ j.2 ∧ j.2 ≤ (l.length : Int) ∧ ∀ q (h : q < l.length), (l[q]).toList = x.toList → j.1 ≤ (q : Int)) (fun j => (j.2 - j.1).toNat)
    ⟨Int.le_refl _, by show (0 : Int) ≤ _; omega, Int.le_refl _, fun q h _ => by show (0 : Int) ≤ _; omega⟩ ?_
  rintro ⟨a, b⟩ ⟨k1, k2, k3, k4⟩
  dsimp only at k1 k2 k3 k4
  simp only [L_r23_Index_2, Wp_some, Wp_gd, Wp_cond, Wp_bd, Wp_bnd, Wp_bindE, Sum.elim_inl, Sum.elim_inr, condO, condA, decide_eq_true_eq, decide_eq_false_iff_not, Bool.or_eq_true, Bool.or_eq_false_iff, Bool.and_eq_true, Bool.and_eq_false_iff, Bool.not_eq_true', Bool.not_eq_false', bne_iff_ne, bne_eq_false_iff_eq, beq_iff_eq, beq_eq_false_iff_ne, true_and, and_true, Int.not_lt, Int.not_le, ne_eq, not_false_eq_true, implies_true, forall_const, gt_iff_lt, ge_iff_le]
  rw [w64 (x := a + b) (by omega), Int.tdiv_eq_ediv_of_nonneg (by omega), w64 (x := (a + b) / 2) (by omega), w64 (x := (a + b) / 2 + 1) (by omega)]
  refine ⟨fun hc => ⟨by omega, fun hx => ⟨⟨by omega, by omega, k3, fun q h e => ?_⟩, by omega⟩, fun hx => ⟨⟨k1, by omega, by omega, k4⟩, by omega⟩⟩, fun hc => ⟨fun h => by omega, k1, by omega, fun hd => ?_⟩⟩
  · have hm : ((a + b) / 2).toNat < l.length := by omega
    rw [getD_get hm] at hx
    have : sLt l[((a + b) / 2).toNat] l[q] := by
      unfold sLt
      rw [e]
      exact hx
    have := sorted_lt hs hm h this
    omega
  · obtain ⟨y, h1, h2⟩ := hd
    obtain ⟨q, hq, rfl⟩ := List.getElem_of_mem h1
    have := k4 q hq h2
    omega
end Go.Abs
