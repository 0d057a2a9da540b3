/- DERIVED. Own theory, part 24: from a contract over read-only arguments to the given rows. -/
import Derived.Test.YtlhiaclmbegaiaaGreatA23
set_option linter.unusedVariables false
set_option linter.unusedSimpArgs false
namespace Go.Abs
open Go.RowKit

/-- A slice of integers that came in: nil, or a row of 'cap' cells. -/
def IsRow (k : IntKind) (w : World) (a : Option Addr) (len cap : Nat) (zs : List Int) : Prop :=
  (a = none ∧ len = 0 ∧ cap = 0 ∧ zs = []) ∨
  ∃ x, a = some x ∧ len ≤ cap ∧ cap ≤ maxLen ∧ zs.length = cap ∧ (∀ i, i < zs.length → w.cell? (x.add i) = some (.int k (zs.getD i 0))) ∧ ∀ n ∈ zs, (Lit.int k n).wf = true

theorem IsRow.len {k : IntKind} {w : World} {a : Option Addr} {len cap : Nat} {zs : List Int} (h : IsRow k w a len cap zs) : (zs.take len).length = len := by
  rcases h with ⟨_, h1, _, h2⟩ | ⟨x, _, h1, _, h2, _⟩
  · simp [h1, h2]
  · simp; omega
theorem IsRow.max {k : IntKind} {w : World} {a : Option Addr} {len cap : Nat} {zs : List Int} (h : IsRow k w a len cap zs) : (zs.take len).length ≤ maxLen := by
  rw [h.len]
  rcases h with ⟨_, h1, _, h2⟩ | ⟨x, _, h1, h3, h2, _⟩
  · simp [h1]
  · omega
theorem IsRow.wf {k : IntKind} {w : World} {a : Option Addr} {len cap : Nat} {zs : List Int} (h : IsRow k w a len cap zs) : ∀ n ∈ zs.take len, (Lit.int k n).wf = true := by
  intro n hn
  rcases h with ⟨_, _, _, h2⟩ | ⟨x, _, _, _, _, _, h⟩
  · simp [h2] at hn
  · exact h n (List.mem_of_mem_take hn)
theorem IsRow.rel {k : IntKind} {w : World} {a : Option Addr} {len cap : Nat} {zs : List Int} {τ : Nat → Value} (h : IsRow k w a len cap zs) :
    RelA τ (fun b => b < w.heap.size) w (.c (.d (.ro 1 (zs.take len).length (gT (fInt k) (zs.take len))))) (.slice a len cap) := by
  have hl := h.len
  show RelD _ _ _ _
  rw [hl]
  rcases h with ⟨rfl, rfl, rfl, rfl⟩ | ⟨⟨b, o, s⟩, rfl, h1, h2, h3, h4, _⟩
  · exact ⟨none, 0, rfl, Nat.le_refl _, fun h => absurd h (by omega)⟩
  · refine ⟨some ⟨b, o, s⟩, cap, rfl, h1, fun hn => ?_⟩
    have h0 := h4 0 (by omega)
    obtain rfl : s = none := by simpa [Addr.add] using World.cell?_spot h0
    refine ⟨b, o, rfl, ?_, fun i hi j hj => ?_⟩
    · show b < w.heap.size
      simp only [Addr.add, if_true, World.cell?] at h0
      split at h0
      · rename_i hh
        exact (Array.getElem?_eq_some_iff.1 hh).1
      · simp at h0
    · obtain rfl : j = 0 := by omega
      refine ⟨.int k (zs.getD i 0), ?_, rfl, ?_⟩
      · rw [← h4 i (by omega)]
        by_cases h0 : i = 0 <;> simp [Addr.add, h0]
      · show _ = _
        simp [List.getD, hi]

theorem Spec.below {P : Program} {f : FuncId} {args : List AV} {y : Value} {w : World} {vals : List Value} (h : Spec P f args [] (.c (.d (.v y))) [])
    (hargs : RelAs (fun _ => undef) (fun b => b < w.heap.size) w args vals) : Calls P f vals.toArray w fun e w' => e = .returned y ∧ Below w.heap.size w w' := by
  have h0 := h w vals (fun _ => undef) (fun b => b < w.heap.size) hargs ⟨by simp, List.Pairwise.nil, fun _ h => h, by simp⟩
  refine h0.mono ?_
  rintro e w' ⟨z, τ', S', rfl, o⟩
  have : z = y := o.res
  subst this
  exact ⟨rfl, o.keep.os, o.keep.tape, o.keep.output, o.keep.size, fun k hk => o.keep.block k hk (by rintro ⟨p, hp, _⟩; simp at hp)⟩
end Go.Abs
