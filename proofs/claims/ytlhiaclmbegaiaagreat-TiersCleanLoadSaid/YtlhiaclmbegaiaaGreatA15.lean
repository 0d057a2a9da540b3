/- DERIVED. Own theory, part 15: literals that are owned; sub-slices appended in drawn regions. -/
import Derived.Test.YtlhiaclmbegaiaaGreatA14
set_option linter.unusedVariables false
set_option linter.unusedSimpArgs false
namespace Go.Abs

theorem zdata {τ S w} {cs : List C} {ds : List DV} {us : List Value} (hds : dataOf cs = some ds) (hr : RelCs τ S w cs us) : ds.length = us.length ∧ ∀ j, j < ds.length → ∃ u, us[j]? = some u ∧ u.oneCell' = true ∧ RelD S w (ds.getD j (.v undef)) u := dataOf_rel hds hr

/-- A slice literal that is owned. -/
theorem WO.buildO {P : Program} {N : Nat} {ops : Array Oper} {i : Nat} {l : List Nat} {st : ASt} {Q : Exit → ASt → Prop} {o : Oper} {t len ety sz : Nat} {parts : Array (Nat × Operand)} {g : Nat → Nat → DV} (id : Nat) (ho : ops[i]? = some o)
    (hop : o.op = .buildSlice t len parts) (hgd : o.guard = none) (h : xBuildS P st.hp (opA st.fr) t len parts = some (.c (.d (.ro sz len g)))) (het : P.underlying t = some (.slice ety))
    (hchk : (decide (newId ≤ id) && (frFresh id st.fr && (hpFresh id st.hp && (dstOk N o.dst && decide (len ≤ maxLen))))) = true)
    (k : WO P N ops l ⟨putF st.fr o.dst (.c (.nm id)), (id, .rows ety sz len g) :: st.hp⟩ Q) : WO P N ops (i :: l) st Q := by
  simp only [Bool.and_eq_true, decide_eq_true_eq] at hchk
  obtain ⟨hid, hf, hf', hd, hml⟩ := hchk
  unfold xBuildS at h
  split at h
  · rename_i e hu
    rw [hu] at het
    simp only [Option.some.injEq, TypeDesc.slice.injEq] at het
    subst het
    split at h
    · rename_i ie hie
      split at h
      · rename_i z hz
        split at h
        · rename_i hcnd
          split at h
          · rename_i cs hfill
            split at h
            · rename_i ds hds
              simp only [Option.some.injEq, AV.c.injEq, C.d.injEq, DV.ro.injEq] at h
              obtain ⟨rfl, _, rfl⟩ := h
              intro E τ S a w hE hC
              have hw : Region.wanted o (yielded ops a.tmps) = true := by simp [Region.wanted, hgd]
              obtain ⟨us, hf1, hf2⟩ := fillC_rel (τ := τ) (S := S) (w := w) hC.hp (fun i => some (i * ie.size, ie.size)) (ρA := opA st.fr) (ρ := a.eval) parts.toList (fun x _ => hC.opA x.2) (rep_rel (len * ie.size) hcnd.2.2.1 hcnd.2.2.2) hfill
              have hrun := run_buildSlice (P := P) w t e len (parts.map fun (i, x) => (i, a.eval x)) us ie z hu hie hz (by omega) (by omega) (by simpa using hf1)
              have hlen : ds.length = len * ie.size := by
                have h1 := (dataOf_rel hds hf2).1
                have h2 := hf2.len
                have : (repC z (len * ie.size)).length = len * ie.size := by simp [repC]
                have h3 : cs.length = (repC z (len * ie.size)).length := by
                  have gen : ∀ (ps : List (Nat × AV)) (c c' : List C), fillC st.hp (fun i => some (i * ie.size, ie.size)) c ps = some c' → c'.length = c.length := by
                    intro ps
                    induction ps with
                    | nil => intro c c' h; simp [fillC] at h; rw [h]
                    | cons q ps ih =>
                      obtain ⟨i, v⟩ := q
                      intro c c' h
                      simp only [fillC] at h
                      split at h
                      · split at h
                        · cases h
                        · rename_i hcc
                          have := ih _ _ h
                          rw [this]
                          simp only [Bool.or_eq_true, decide_eq_true_eq, not_or, Nat.not_lt] at hcc
                          simp [setMany]; omega
                      · cases h
                  exact gen _ _ _ hfill
                omega
              have hus : us.size = len * ie.size := by
                have h1 := (dataOf_rel hds hf2).1
                have : us.toList.length = us.size := Array.length_toList
                omega
              have hC2 : Cfg E (upd τ id (.slice (some ⟨w.heap.size, 0, none⟩) len len)) S ⟨st.fr, (id, .rows e ie.size len (litGet ie.size ds)) :: st.hp⟩ a (w.alloc (.cells us e)) := by
                refine hC.fresh hid hf hf' (World.grownBy_alloc w _ none) (fun b hb => by simp [Value.ownBlock] at hb; omega) ?_
                refine ⟨us.toList, ⟨by simpa using hus, .inr ⟨w.heap.size, len, us, (0, 0), by simp, heap_alloc_new w _, .inl rfl, Nat.le_refl _, hml, hus, ?_⟩⟩, fun i hi j hj => ?_⟩
                · rw [List.take_of_length_le]
                  rw [Array.length_toList]; omega
                · have hlt : i * ie.size + j < ds.length := by
                    rw [hlen]
                    have : (i + 1) * ie.size ≤ len * ie.size := Nat.mul_le_mul_right _ hi
                    rw [Nat.add_mul, Nat.one_mul] at this
                    omega
                  obtain ⟨u, hu1, hu2, hu3⟩ := (dataOf_rel hds hf2).2 _ hlt
                  refine ⟨u, hu1, hu2, ?_⟩
                  rw [litGet_eq hj hlt]
                  exact RelD.mono (fun b hb => hb) (fun b hb => (World.grownBy_alloc w _ none).block b (hC.hp.s b hb) (by simp)) _ _ hu3
              refine wpOps_do ho hw (y := .slice (some ⟨w.heap.size, 0, none⟩) len len) (w' := w.alloc (.cells us e)) ?_ ?_
              · simp [execOp, hop, hrun]
              · exact k E _ _ _ _ hE (Cfg.put hC2 (hE ▸ dst_lt hd) (by show _ = upd τ id (.slice (some ⟨w.heap.size, 0, none⟩) len len) id; rw [upd_same]))
            · cases h
          · cases h
        · cases h
      · cases h
    · cases h
  · cases h

/-- An empty literal, owned. -/
theorem WO.build0 {P : Program} {N : Nat} {ops : Array Oper} {i : Nat} {l : List Nat} {st : ASt} {Q : Exit → ASt → Prop} {o : Oper} {t ety sz : Nat} {g : Nat → Nat → DV} (id : Nat) (ho : ops[i]? = some o)
    (hop : o.op = .buildSlice t 0 #[]) (hgd : o.guard = none) (het : P.underlying t = some (.slice ety)) (hie0 : (P.info? ety).map (·.size) = some sz)
    (hchk : (decide (newId ≤ id) && (frFresh id st.fr && (hpFresh id st.hp && dstOk N o.dst))) = true)
    (k : WO P N ops l ⟨putF st.fr o.dst (.c (.nm id)), (id, .rows ety sz 0 g) :: st.hp⟩ Q) : WO P N ops (i :: l) st Q := by
  simp only [Bool.and_eq_true, decide_eq_true_eq] at hchk
  obtain ⟨hid, hf, hf', hd⟩ := hchk
  obtain ⟨ie, hie, rfl⟩ := Option.map_eq_some_iff.1 hie0
  intro E τ S a w hE hC
  have hw : Region.wanted o (yielded ops a.tmps) = true := by simp [Region.wanted, hgd]
  have hrun : (Instr.buildSlice t 0 #[]).run P w = .ok (.slice (some ⟨w.heap.size, 0, none⟩) 0 0) (w.alloc (.cells #[] ety)) := by
    have e : (Array.map (fun (_ : Nat) => (default : Value)) (Array.range 0)) = #[] := by simp [Array.range]
    simp [Instr.buildSlice, run_underlying het, sizeOf, typeInfo, hie, newRow, Instr.fill, e]
  have hC2 : Cfg E (upd τ id (.slice (some ⟨w.heap.size, 0, none⟩) 0 0)) S ⟨st.fr, (id, .rows ety ie.size 0 g) :: st.hp⟩ a (w.alloc (.cells #[] ety)) := by
    refine hC.fresh hid hf hf' (World.grownBy_alloc w _ none) (fun b hb => by simp [Value.ownBlock] at hb; omega) ?_
    refine ⟨[], ⟨by simp, .inr ⟨w.heap.size, 0, #[], (0, 0), by simp, heap_alloc_new w _, .inl rfl, Nat.le_refl _, Nat.zero_le _, by simp, by simp⟩⟩, fun i hi => absurd hi (by omega)⟩
  refine wpOps_do ho hw (y := .slice (some ⟨w.heap.size, 0, none⟩) 0 0) (w' := w.alloc (.cells #[] ety)) ?_ ?_
  · simp [execOp, hop, hrun]
  · exact k E _ _ _ _ hE (Cfg.put hC2 (hE ▸ dst_lt hd) (by show _ = upd τ id (.slice (some ⟨w.heap.size, 0, none⟩) 0 0) id; rw [upd_same]))

section
variable {P : Program} {N : Nat} {ops : Array Oper} {V : Nat → AV} {fr : List (Nat × AV)} {i : Nat} {hp hp2 : List (Nat × Ct)} {o : Oper} {c : Call} {s x : Operand} {t t2 ety sz B : Nat}
theorem EffD.appSub {α : Type} [Inhabited α] (f : α → Nat → DV) {L L2 : List α} {g : Nat → Nat → DV} {lo hi : Int} (id : Nat)
    (ho : ops[i]? = some o) (hop : o.op = .call c) (hcal : c.callee = .builtin .append) (hargs : c.args.toList = [s, x]) (htys : c.argTypes.toList = [t, t2]) (hgd : o.guard = none)
    (hs : ownOf hp ety sz (envD ops V fr i s) = some (L.length, g)) (hgl : L = [] ∨ g = gT f L) (hx : srcOf P hp t2 sz (envD ops V fr i x) = some (hi.toNat - lo.toNat, fun k => gT f L2 (lo.toNat + k)))
    (hb2 : 0 ≤ lo ∧ lo ≤ hi ∧ hi ≤ (L2.length : Int))
    (hchk : (appChk P t t2 ety sz B && (decide (newId ≤ id) && (frFresh id fr && (hpFresh id hp && (dstOk N o.dst && newD ops V i id))))) = true)
    (hb : (L.length + (sub L2 lo hi).length) * B ≤ 140737488355328)
    (hV : V i = .c (.nm id)) (hhp : hp2 = (id, .rows ety sz (L ++ sub L2 lo hi).length (gT f (L ++ sub L2 lo hi))) :: delS hp (envD ops V fr i s)) : EffD P N ops V fr i hp hp2 := by
  have hl := sub_length hb2
  rw [hl] at hb
  refine EffD.append id ho hop hcal hargs htys hgd hs hx hchk hb (by simp [hl]) ?_ ?_ hV hhp
  · intro i hi j _
    rcases hgl with rfl | rfl
    · simp at hi
    · exact gT_left i hi j
  · intro i hii j hj
    rw [gT_right]
    have : (Abs.sub L2 lo hi)[i]? = L2[lo.toNat + i]? := by
      unfold Abs.sub
      rw [List.getElem?_drop, List.getElem?_take, if_pos (by omega)]
    simp [gT, List.getD_eq_getElem?_getD, this]
end
end Go.Abs
