/- DERIVED. Own theory, part 16: a read slice compared with nil. -/
import Derived.Test.YtlhiaclmbegaiaaGreatA15
set_option linter.unusedVariables false
set_option linter.unusedSimpArgs false
namespace Go.Abs
open Classical in
/-- A slice of n elements is nil or not: what comes must not hang on it. -/
noncomputable def eqn {β : Type} (n : Nat) (k : Bool → Option β) : Option β := if n = 0 then (if k true = k false then k false else none) else k false
theorem eqn_inv {β : Type} {n : Nat} {k : Bool → Option β} {r : β} (h : eqn n k = some r) (b : Bool) (hb : b = true → n = 0) : k b = some r := by
  unfold eqn at h
  split at h
  · split at h
    · rename_i e; cases b
      · exact h
      · rw [e]; exact h
    · cases h
  · rename_i hn
    cases b with
    | true => exact absurd (hb rfl) hn
    | false => exact h
theorem WO.eqNil {P : Program} {N : Nat} {ops : Array Oper} {i : Nat} {l : List Nat} {st : ASt} {Q : Exit → ASt → Prop} {o : Oper} {x : Operand} {t ty sz n : Nat} {g : Nat → Nat → DV}
    (ho : ops[i]? = some o) (hop : o.op = .binOp .eql t x (.const (.slice none 0 0)) ty) (hgd : o.guard = none) (hx : opA st.fr x = .c (.d (.ro sz n g))) (hq : ∀ (ad : Option Addr) (c : Nat), pureV P (do eqGuard .eql t x (.const (.slice none 0 0)) (.slice ad n c) (.slice none 0 0); binOp .eql t (.slice ad n c) (.slice none 0 0)) = some (.bool ad.isNone)) (hd : dstOk N o.dst = true)
    (k : ∀ b, (b = true → n = 0) → WO P N ops l ⟨putF st.fr o.dst (xb b), st.hp⟩ Q) : WO P N ops (i :: l) st Q := by
  intro E τ S a w hE hC
  have hw : Region.wanted o (yielded ops a.tmps) = true := by simp [Region.wanted, hgd]
  have hr := hC.opA x
  rw [hx] at hr
  obtain ⟨ad, c, hy, hc, hcell⟩ := hr
  have hrun : (execOp a.eval o).run P w = .ok (.value (.bool ad.isNone)) w := by
    have hy2 : a.eval (.const (.slice none 0 0)) = .slice none 0 0 := rfl
    unfold execOp
    simp only [hop, hy, hy2]
    simp only [Sem.run_bind, pureV_run (hq ad c) w, Result.andThen_ok]
    rfl
  refine wpOps_do ho hw hrun (k ad.isNone (fun h => ?_) E τ S _ w hE (hC.put (hE ▸ dst_lt hd) rfl))
  rcases Nat.eq_zero_or_pos n with h0 | h0
  · exact h0
  · obtain ⟨b, o', rfl, _⟩ := hcell h0
    cases h
end Go.Abs
