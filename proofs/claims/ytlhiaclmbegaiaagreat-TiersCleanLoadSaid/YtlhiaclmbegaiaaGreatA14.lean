/- DERIVED. Own theory, part 14: effects in regions that draw their order; calls under a condition; stores into boxes. -/
import Derived.Test.YtlhiaclmbegaiaaGreatA13
set_option linter.unusedVariables false
set_option linter.unusedSimpArgs false
namespace Go.Abs

theorem freshAll_mono {fr fr' : List (Nat × AV)} {hp : List (Nat × Ct)} : ∀ {new : List (Nat × Nat)}, (∀ p ∈ new, frFresh p.2 fr = true → frFresh p.2 fr' = true) → freshAll ⟨fr, hp⟩ new = true → freshAll ⟨fr', hp⟩ new = true
  | [], _, _ => rfl
  | (a, b) :: r, hm, h => by
    simp only [freshAll, Bool.and_eq_true] at h ⊢
    exact ⟨⟨⟨h.1.1.1, hm (a, b) (by simp) h.1.1.2.1, h.1.1.2.2⟩, h.1.2⟩, freshAll_mono (fun p hp => hm p (List.mem_cons_of_mem _ hp)) h.2⟩
/-- The name is new to all values that can stand in the frame ahead of operation j. -/
def newD (ops : Array Oper) (V : Nat → AV) (j id : Nat) : Bool := (List.range ops.size).all fun i => (i == j || afterT ops i j) || !(V i).has id
theorem dstOf_eq {ops : Array Oper} {j : Nat} {o : Oper} (h : ops[j]? = some o) : dstOf ops j = o.dst := by simp [dstOf, h]

theorem EffD.call {P : Program} {N : Nat} {ops : Array Oper} {V : Nat → AV} {fr : List (Nat × AV)} {j : Nat} {hp hp2 : List (Nat × Ct)} {o : Oper} {c : Call} {f : FuncId} {args : List AV} {hp0 hp' : List (Nat × Ct)} {res : AV}
    (old new : List (Nat × Nat)) (ho : ops[j]? = some o) (hop : o.op = .call c) (hcal : c.callee = .value (.func f)) (hg : o.guard = none) (hcb : callable P f = true) (spec : Spec P f args hp0 res hp')
    (hargs : c.args.toList.map (envD ops V fr j) = args.map (renA (asc old))) (hlk : lkAll hp (asc old) hp0)
    (hchk : (nodupB (hp0.map fun p => asc old p.1) && (freshAll ⟨fr, hp⟩ new && ((hp0.all fun p => decide (p.1 < newId)) &&
      (avIn (new ++ (hp0.map fun p => (p.1, asc old p.1))) res && (hpIn (new ++ (hp0.map fun p => (p.1, asc old p.1))) hp' && dstOk N o.dst))))) = true) (hn : (new.all fun p => newD ops V j p.2) = true)
    (hV : V j = renA (asc (new ++ (hp0.map fun p => (p.1, asc old p.1)))) res) (hhp : hp2 = renHp (asc (new ++ (hp0.map fun p => (p.1, asc old p.1)))) hp' ++ delAll hp (hp0.map fun p => asc old p.1)) : EffD P N ops V fr j hp hp2 := by
  intro fr' henv _ hfresh Q hQ
  simp only [ho] at henv
  simp only [Bool.and_eq_true] at hchk
  obtain ⟨c1, c2, c3, c5, c6, c7⟩ := hchk
  have c2' : freshAll ⟨fr', hp⟩ new = true := freshAll_mono (fun p hp h => hfresh p.2 h (List.all_eq_true.1 hn p hp)) c2
  refine WO.call (st := ⟨fr', hp⟩) old new ho hop hcal hg hcb spec ?_ hlk (by simp only [Bool.and_eq_true]; exact ⟨c1, c2', c3, c5, c6, c7⟩) (WO.nil ?_)
  · rw [← hargs]
    refine List.map_congr_left fun x hx => henv x ?_
    simp only [hop, Op.operands, Call.operands]; simp; exact .inr (by simpa using hx)
  · rw [hV, hhp, dstOf_eq ho] at hQ
    exact hQ

/-- A call under a condition. -/
theorem WO.callG {P : Program} {N : Nat} {ops : Array Oper} {i : Nat} {l : List Nat} {st : ASt} {hp2 : List (Nat × Ct)} {Q : Exit → ASt → Prop} {o : Oper} {c : Call} {f : FuncId} {args : List AV} {hp0 hp' : List (Nat × Ct)} {res v : AV} (g : Bool)
    (old : List (Nat × Nat)) (ho : ops[i]? = some o) (hop : o.op = .call c) (hcal : c.callee = .value (.func f)) (hg : guardOf st.fr ops o = some (some g)) (hcb : callable P f = true) (spec : g = true → Spec P f args hp0 res hp')
    (hargs : (c.args.toList.map fun x => stripA (opA st.fr x)) = args.map (renA (asc old))) (p : Ob) (how : owes (some g) st.fr c.args.toList = p) (hob : ob p) (hlk : lkAll st.hp (asc old) hp0)
    (hchk : (nodupB (hp0.map fun p => asc old p.1) && ((hp0.all fun p => decide (p.1 < newId)) &&
      (avIn ((hp0.map fun p => (p.1, asc old p.1))) res && (hpIn ((hp0.map fun p => (p.1, asc old p.1))) hp' && dstOk N o.dst)))) = true)
    (hv : v = renA (asc ((hp0.map fun p => (p.1, asc old p.1)))) res) (ht : g = true → hp2 = renHp (asc ((hp0.map fun p => (p.1, asc old p.1)))) hp' ++ delAll st.hp (hp0.map fun p => asc old p.1)) (hf : g = false → hp2 = st.hp)
    (k : WO P N ops l ⟨putF st.fr o.dst (gdA (some g) v), hp2⟩ Q) : WO P N ops (i :: l) st Q := by
  simp only [Bool.and_eq_true] at hchk
  obtain ⟨c1, c3, c5, c6, c7⟩ := hchk
  subst hv
  intro E τ S a w hE h
  obtain ⟨_, w2⟩ := wanted_of h hg
  cases g with
  | false =>
    have := hf rfl
    subst this
    exact wpOps_not ho (w2 false rfl) (k E τ S _ w hE (h.put (hE ▸ dst_lt c7) gdA_undef))
  | true =>
    have := ht rfl
    subst this
    have hw : Region.wanted o (yielded ops a.tmps) = true := w2 true rfl
    have hrun : (execOp a.eval o).run P w = .ok (.enter f (c.args.toList.map a.eval).toArray) w := by
      have e : c.args.map a.eval = (c.args.toList.map a.eval).toArray := by apply Array.ext'; simp
      simp [execOp, hop, resolve, hcal, Act.eval, Deferred.ofValue, invoke, callFunc_run hcb, e]
    simp only [wpOps, ho, hw, if_true]
    refine .inl ?_
    simp only [Oper.wp, hrun, Oper.upon]
    have hH : HP (fun i => τ (asc old i)) S w hp0 := by
      have hmem := lkAll_mem hlk
      refine ⟨fun p hp => (h.hp.ct _ (hmem p hp)).unren, ?_, h.hp.s, fun b hb p hp => h.hp.ss b hb _ (hmem p hp)⟩
      have hnd := nodupB_spec c1
      have hpw : hp0.Pairwise fun p q => asc old p.1 ≠ asc old q.1 := List.pairwise_map.1 hnd
      exact List.Pairwise.imp_of_mem (fun {p q} hp hq hne => ⟨fun e => hne (by rw [e]), fun b hb => h.hp.apart (hmem p hp) (hmem q hq) hne b hb⟩) hpw
    refine (spec rfl w (c.args.toList.map a.eval) (fun i => τ (asc old i)) S (args_rel hargs fun x hx => strip_rel (h.opA x) (owes_mem (how ▸ hob) x hx) (fun g hg => by cases hg; rfl)) hH).mono ?_
    rintro e w' ⟨y, τ', S', rfl, hout⟩
    obtain ⟨τ'', S'', hr, hc⟩ := h.called (new := []) hlk c1 rfl c3 c5 c6 hout
    exact k E τ'' S'' _ w' hE (hc.put (hE ▸ dst_lt c7) (gdA_rel (fun g hg => by cases hg; rfl) hr))

theorem guardD_eq {ops : Array Oper} {V : Nat → AV} {fr fr' : List (Nat × AV)} {j : Nat} {o : Oper} {G : Option Bool} (h : guardD ops V fr j o = some G)
    (hr : ∀ i b t, o.guard = some (i, b) → dstOf ops i = some t → lk fr' t = envD ops V fr j (.tmp t)) : guardOf fr' ops o = some G := by
  unfold guardD at h
  unfold guardOf
  cases hgd : o.guard with
  | none => simpa [hgd] using h
  | some p =>
    obtain ⟨i, b⟩ := p
    simp only [hgd] at h ⊢
    cases ht : (ops[i]?).bind (·.dst) with
    | none => simp [ht] at h
    | some t =>
      simp only [ht] at h ⊢
      rw [hr i b t hgd ht]
      exact h

/-- A store into a box. -/
theorem WO.storeB {P : Program} {N : Nat} {ops : Array Oper} {i : Nat} {l : List Nat} {st : ASt} {Q : Exit → ASt → Prop} {o : Oper} {x y : Operand} {t ety sz j id : Nat} {vs cs : List C}
    (ho : ops[i]? = some o) (hop : o.op = .store t x y) (hgd : o.guard = none) (hx : opA st.fr x = .c (.np id sz 0 j)) (hl : lkH st.hp id = some (.box ety cs))
    (hvs : avCells st.hp (opA st.fr y) = some vs) (hchk : (decide ((P.info? t).map (·.size) = some vs.length) && (decide (j + vs.length ≤ cs.length) && dstOk N o.dst)) = true)
    (k : WO P N ops l ⟨putF st.fr o.dst .dead, setHp st.hp id (.box ety (setMany cs j vs))⟩ Q) : WO P N ops (i :: l) st Q := by
  simp only [Bool.and_eq_true, decide_eq_true_eq] at hchk
  obtain ⟨hc1, hc2, hd⟩ := hchk
  intro E τ S a w hE hC
  have hw : Region.wanted o (yielded ops a.tmps) = true := by simp [Region.wanted, hgd]
  have hrx := hC.opA x
  rw [hx] at hrx
  obtain ⟨b, hb, hy⟩ := hrx
  obtain ⟨b', us, hτ, hh, hrc⟩ := hC.hp.box hl
  have hbb : b' = b := by rw [hτ] at hb; simpa [Value.ownBlock] using hb
  subst hbb
  have hrel := avCells_rel hC.hp hvs (hC.opA y)
  obtain ⟨w', hrun, hgw, hsz, hheap⟩ := storeVar_run (P := P) (b := b') (o := j) (t := t) (y := a.eval y) hh (.inl rfl) (by rw [hc1, hrel.len]; simp) (by have := hrel.len; have := hrc.len; simp at *; omega) (fun v hv => hrel.ones v hv)
  refine wpOps_doSkip ho hw (w' := w') ?_ ?_
  · simp only [Nat.zero_mul, Nat.zero_add] at hy
    simp [execOp, hop, hy, Instr.storeAt, Instr.sureAddr, hrun]
  · have hst : Stays τ τ S S w w' := stays_of hgw (fun _ h => h) hC.hp.s (fun b hb hs => by cases hb; exact hC.hp.ss _ hs _ (lkH_mem hl) (by rw [hτ]; rfl))
    have hC' := hC.write hl (w' := w') (b := b') (by rw [hτ]; rfl) hgw (ct' := .box ety (setMany cs j vs)) ⟨b', setMany us j (a.eval y).cells.toList, hτ, hheap, (hrc.setMany j hrel).mono hst (fun _ _ => rfl)⟩
    exact k E τ S _ w' hE (hC'.put (hE ▸ dst_lt hd) trivial)

theorem EffD.storeB {P : Program} {N : Nat} {ops : Array Oper} {V : Nat → AV} {fr : List (Nat × AV)} {i : Nat} {hp hp2 : List (Nat × Ct)} {o : Oper} {x y : Operand} {t ety sz j id : Nat} {vs cs : List C}
    (ho : ops[i]? = some o) (hop : o.op = .store t x y) (hgd : o.guard = none) (hx : envD ops V fr i x = .c (.np id sz 0 j)) (hl : lkH hp id = some (.box ety cs))
    (hvs : avCells hp (envD ops V fr i y) = some vs) (hchk : (decide ((P.info? t).map (·.size) = some vs.length) && (decide (j + vs.length ≤ cs.length) && dstOk N o.dst)) = true)
    (hV : V i = .dead) (hhp : hp2 = setHp hp id (.box ety (setMany cs j vs))) : EffD P N ops V fr i hp hp2 := by
  intro fr' henv _ _ Q hQ
  simp only [ho] at henv
  have ex := henv x (by simp [hop, Op.operands])
  have ey := henv y (by simp [hop, Op.operands])
  refine WO.storeB (st := ⟨fr', hp⟩) ho hop hgd (ex.trans hx) hl (by rw [ey]; exact hvs) hchk (WO.nil ?_)
  rw [hV, hhp, dstOf_eq ho] at hQ
  exact hQ

theorem EffD.storeR {P : Program} {N : Nat} {ops : Array Oper} {V : Nat → AV} {fr : List (Nat × AV)} {i : Nat} {hp hp2 : List (Nat × Ct)} {o : Oper} {x y : Operand} {t ety sz k0 j id : Nat} {α : Type} [Inhabited α] {f : α → Nat → DV} {L : List α} (nv : α) {vs : List C} {ds : List DV}
    (ho : ops[i]? = some o) (hop : o.op = .store t x y) (hgd : o.guard = none) (hx : envD ops V fr i x = .c (.np id sz k0 j)) (hl : lkH hp id = some (.rows ety sz L.length (gT f L)))
    (hv : avCells hp (envD ops V fr i y) = some vs) (hds : dataOf vs = some ds) (hk0 : k0 < L.length) (hchk : (decide ((P.info? t).map (·.size) = some ds.length) && (decide (j + ds.length ≤ sz) && dstOk N o.dst)) = true)
    (hnv : (List.range sz).map (f nv) = (List.range sz).map fun j' => if j ≤ j' ∧ j' < j + ds.length then ds.getD (j' - j) (.v undef) else f (L.getD k0 default) j')
    (hV : V i = .dead) (hhp : hp2 = setHp hp id (.rows ety sz (L.set k0 nv).length (gT f (L.set k0 nv)))) : EffD P N ops V fr i hp hp2 := by
  intro fr' henv _ _ Q hQ
  simp only [ho] at henv
  have ex := henv x (by simp [hop, Op.operands])
  have ey := henv y (by simp [hop, Op.operands])
  refine WO.storeR (st := ⟨fr', hp⟩) nv ho hop hgd (ex.trans hx) hl (by rw [ey]; exact hv) hds hk0 hchk hnv (WO.nil ?_)
  rw [hV, hhp, dstOf_eq ho] at hQ
  exact hQ

theorem EffD.callG {P : Program} {N : Nat} {ops : Array Oper} {V : Nat → AV} {fr : List (Nat × AV)} {j : Nat} {hp hp2 : List (Nat × Ct)} {o : Oper} {c : Call} {f : FuncId} {args : List AV} {hp0 hp' : List (Nat × Ct)} {res v : AV} (g : Bool)
    (old : List (Nat × Nat)) (ho : ops[j]? = some o) (hop : o.op = .call c) (hcal : c.callee = .value (.func f)) (hg : guardD ops V fr j o = some (some g))
    (hcb : callable P f = true) (spec : g = true → Spec P f args hp0 res hp')
    (hargs : (c.args.toList.map fun x => stripA (envD ops V fr j x)) = args.map (renA (asc old))) (p : Ob) (how : owesD (some g) (envD ops V fr j) c.args.toList = p) (hob : ob p) (hlk : lkAll hp (asc old) hp0)
    (hchk : (nodupB (hp0.map fun p => asc old p.1) && ((hp0.all fun p => decide (p.1 < newId)) &&
      (avIn ((hp0.map fun p => (p.1, asc old p.1))) res && (hpIn ((hp0.map fun p => (p.1, asc old p.1))) hp' && dstOk N o.dst)))) = true)
    (hv : v = renA (asc ((hp0.map fun p => (p.1, asc old p.1)))) res) (hV : V j = gdA (some g) v) (ht : g = true → hp2 = renHp (asc ((hp0.map fun p => (p.1, asc old p.1)))) hp' ++ delAll hp (hp0.map fun p => asc old p.1)) (hf : g = false → hp2 = hp) : EffD P N ops V fr j hp hp2 := by
  intro fr' henv hgrd hfresh Q hQ
  simp only [ho, Option.bind_some] at henv hgrd
  have hmem : ∀ z, z ∈ c.args.toList → z ∈ o.op.operands.toList := by
    intro z hz
    simp only [hop, Op.operands, Call.operands]; simp; exact .inr (by simpa using hz)
  have key : ∀ l : List Operand, (∀ z ∈ l, z ∈ c.args.toList) → owes (some g) fr' l = owesD (some g) (envD ops V fr j) l := by
    intro l
    induction l with
    | nil => intro _; rfl
    | cons y l ih =>
      intro hl
      simp only [owes, owesD]
      rw [henv y (hmem y (hl y (by simp))), ih fun z hz => hl z (List.mem_cons_of_mem _ hz)]
  refine WO.callG (st := ⟨fr', hp⟩) (hp2 := hp2) g old ho hop hcal (guardD_eq hg hgrd) hcb spec ?_ p ?_ hob hlk hchk hv ht hf (WO.nil ?_)
  · rw [← hargs]
    refine List.map_congr_left fun x hx => ?_
    rw [henv x (hmem x hx)]
  · rw [← how]
    exact key _ fun z hz => hz
  · rw [hV, dstOf_eq ho] at hQ
    exact hQ
section
variable {P : Program} {N : Nat} {ops : Array Oper} {V : Nat → AV} {fr : List (Nat × AV)} {i : Nat} {hp hp2 : List (Nat × Ct)} {o : Oper} {c : Call} {s x : Operand} {t t2 ety sz B : Nat}
theorem EffD.append {n m n' : Nat} {g gx g' : Nat → Nat → DV} (id : Nat)
    (ho : ops[i]? = some o) (hop : o.op = .call c) (hcal : c.callee = .builtin .append) (hargs : c.args.toList = [s, x]) (htys : c.argTypes.toList = [t, t2]) (hgd : o.guard = none)
    (hs : ownOf hp ety sz (envD ops V fr i s) = some (n, g)) (hx : srcOf P hp t2 sz (envD ops V fr i x) = some (m, gx))
    (hchk : (appChk P t t2 ety sz B && (decide (newId ≤ id) && (frFresh id fr && (hpFresh id hp && (dstOk N o.dst && newD ops V i id))))) = true)
    (hb : (n + m) * B ≤ 140737488355328) (hn : n' = n + m) (hg1 : ∀ i, i < n → ∀ j, j < sz → g' i j = g i j) (hg2 : ∀ i, i < m → ∀ j, j < sz → g' (n + i) j = gx i j)
    (hV : V i = .c (.nm id)) (hhp : hp2 = (id, .rows ety sz n' g') :: delS hp (envD ops V fr i s)) : EffD P N ops V fr i hp hp2 := by
  intro fr' henv _ hfresh Q hQ
  simp only [ho] at henv
  have hmem : ∀ z, z ∈ c.args.toList → z ∈ o.op.operands.toList := by
    intro z hz
    simp only [hop, Op.operands, Call.operands]; simp; exact .inr (by simpa using hz)
  have es := henv s (hmem s (by simp [hargs]))
  have ex := henv x (hmem x (by simp [hargs]))
  simp only [Bool.and_eq_true] at hchk
  obtain ⟨c1, c2, c3, c4, c5, c6⟩ := hchk
  refine WO.append (st := ⟨fr', hp⟩) id ho hop hcal hargs htys hgd (by rw [es]; exact hs) (by rw [ex]; exact hx) (by simp only [Bool.and_eq_true]; exact ⟨c1, c2, hfresh id c3 c6, c4, c5⟩) hb hn hg1 hg2 (WO.nil ?_)
  rw [hV, hhp, dstOf_eq ho, ← es] at hQ
  exact hQ
theorem EffD.appL {α : Type} [Inhabited α] (f : α → Nat → DV) {L L2 : List α} {g gx : Nat → Nat → DV} (id : Nat)
    (ho : ops[i]? = some o) (hop : o.op = .call c) (hcal : c.callee = .builtin .append) (hargs : c.args.toList = [s, x]) (htys : c.argTypes.toList = [t, t2]) (hgd : o.guard = none)
    (hs : ownOf hp ety sz (envD ops V fr i s) = some (L.length, g)) (hgl : L = [] ∨ g = gT f L) (hx : srcOf P hp t2 sz (envD ops V fr i x) = some (L2.length, gx)) (hgx : ∀ i, i < L2.length → ∀ j, j < sz → gT f L2 i j = gx i j)
    (hchk : (appChk P t t2 ety sz B && (decide (newId ≤ id) && (frFresh id fr && (hpFresh id hp && (dstOk N o.dst && newD ops V i id))))) = true)
    (hb : (L.length + L2.length) * B ≤ 140737488355328)
    (hV : V i = .c (.nm id)) (hhp : hp2 = (id, .rows ety sz (L ++ L2).length (gT f (L ++ L2))) :: delS hp (envD ops V fr i s)) : EffD P N ops V fr i hp hp2 := by
  refine EffD.append id ho hop hcal hargs htys hgd hs hx hchk hb (by simp) ?_ ?_ hV hhp
  · intro i hi j _
    rcases hgl with rfl | rfl
    · simp at hi
    · exact gT_left i hi j
  · intro i hi j hj
    rw [gT_right]
    exact hgx i hi j hj
theorem EffD.app1 {α : Type} [Inhabited α] (f : α → Nat → DV) {L : List α} (y : α) {g gx : Nat → Nat → DV} (id : Nat)
    (ho : ops[i]? = some o) (hop : o.op = .call c) (hcal : c.callee = .builtin .append) (hargs : c.args.toList = [s, x]) (htys : c.argTypes.toList = [t, t2]) (hgd : o.guard = none)
    (hs : ownOf hp ety sz (envD ops V fr i s) = some (L.length, g)) (hgl : L = [] ∨ g = gT f L) (hx : srcOf P hp t2 sz (envD ops V fr i x) = some (1, gx)) (hgx : (List.range sz).map (gx 0) = (List.range sz).map (f y))
    (hchk : (appChk P t t2 ety sz B && (decide (newId ≤ id) && (frFresh id fr && (hpFresh id hp && (dstOk N o.dst && newD ops V i id))))) = true)
    (hb : (L.length + 1) * B ≤ 140737488355328)
    (hV : V i = .c (.nm id)) (hhp : hp2 = (id, .rows ety sz (L ++ [y]).length (gT f (L ++ [y]))) :: delS hp (envD ops V fr i s)) : EffD P N ops V fr i hp hp2 := by
  refine EffD.append id ho hop hcal hargs htys hgd hs hx hchk hb (by simp) ?_ (one_eq hgx) hV hhp
  intro i hi j _
  rcases hgl with rfl | rfl
  · simp at hi
  · exact gT_left i hi j
end
theorem obsAll.nil : obsAll [] := trivial
theorem obsAll.cons {p l} (h : ob p) (t : obsAll l) : obsAll (p :: l) := ⟨h, t⟩

/-- The bytes of a string appended. -/
theorem strL_length (s : ByteArray) : (strL s).length = s.size := by
  unfold strL
  rw [List.length_map, Array.length_toList]
  rfl
theorem WO.appS {P : Program} {N : Nat} {ops : Array Oper} {i : Nat} {l : List Nat} {st : ASt} {Q : Exit → ASt → Prop} {o : Oper} {c : Call} {a x : Operand} {t t2 ety B : Nat} (s : ByteArray) {L : List Int} {g : Nat → Nat → DV} (id : Nat)
    (ho : ops[i]? = some o) (hop : o.op = .call c) (hcal : c.callee = .builtin .append) (hargs : c.args.toList = [a, x]) (htys : c.argTypes.toList = [t, t2]) (hgd : o.guard = none)
    (hs : ownOf st.hp ety 1 (opA st.fr a) = some (L.length, g)) (hgl : L = [] ∨ g = gT fU8 L) (hx : srcOf P st.hp t2 1 (opA st.fr x) = some (s.size, fun i _ => .v (.int .u8 (bt s i))))
    (hchk : (appChk P t t2 ety 1 B && (decide (newId ≤ id) && (frFresh id st.fr && (hpFresh id st.hp && dstOk N o.dst)))) = true)
    (hb : (L.length + (strL s).length) * B ≤ 140737488355328)
    (k : WO P N ops l ⟨putF st.fr o.dst (.c (.nm id)), (id, .rows ety 1 (L ++ strL s).length (gT fU8 (L ++ strL s))) :: delS st.hp (opA st.fr a)⟩ Q) : WO P N ops (i :: l) st Q := by
  rw [strL_length] at hb
  refine WO.append id ho hop hcal hargs htys hgd hs hx hchk hb (by simp [strL_length]) ?_ ?_ k
  · intro i hi j _
    rcases hgl with rfl | rfl
    · simp at hi
    · exact gT_left i hi j
  · intro i hi j hj
    rw [gT_right]
    have hi' : i < s.data.toList.length := by rw [Array.length_toList]; exact hi
    simp [gT, strL, bt, List.getD_eq_getElem?_getD, List.getElem?_map, List.getElem?_eq_getElem hi']
    rfl

/-! ### nil for an owned parameter -/
abbrev nilD : DV := .v (.slice none 0 0)
def isNilRow (hp : List (Nat × Ct)) (id : Nat) : Bool :=
  match lkH hp id with
  | some (.rows _ _ 0 _) => true
  | _ => false
def nilChk (id : Nat) (args : List AV) (hp hp' : List (Nat × Ct)) (res : AV) : Bool :=
  isNilRow hp id && (nodupB (hp.map (·.1)) && (hpFresh id (del hp id) && (hpFresh id hp' && (!(res.has id) && args.all fun a => !((frzA id nilD a).has id)))))
theorem RelC.unnil {τ : Nat → Value} {S : Nat → Prop} {w : World} {id : Nat} {c : C} {y : Value} (hn : (frzC id nilD c).has id = false) (h : RelC τ S w (frzC id nilD c) y) : RelC (upd τ id (.slice none 0 0)) S w c y := by
  cases c with
  | d x => exact h
  | nm i =>
    by_cases e : i = id
    · subst e
      simp only [frzC, if_true] at h
      show y = upd τ i (.slice none 0 0) i
      rw [upd_same]
      exact h
    · simp only [frzC, if_neg e] at h
      show y = upd τ id (.slice none 0 0) i
      rw [upd_ne e]
      exact h
  | np i a b c =>
    have e : i ≠ id := by simpa [frzC, C.has] using hn
    obtain ⟨k, h1, h2⟩ := h
    exact ⟨k, by rw [upd_ne e]; exact h1, h2⟩
  | ns i a b c =>
    have e : i ≠ id := by simpa [frzC, C.has] using hn
    show RelNs (upd τ id (.slice none 0 0) i) a b c y
    rw [upd_ne e]
    exact h
theorem RelCs.unnil {τ : Nat → Value} {S : Nat → Prop} {w : World} {id : Nat} : ∀ {l : List C} {us : List Value}, csHas id (l.map (frzC id nilD)) = false → RelCs τ S w (l.map (frzC id nilD)) us → RelCs (upd τ id (.slice none 0 0)) S w l us
  | [], [], _, _ => trivial
  | [], _ :: _, _, h => h.elim
  | _ :: _, [], _, h => h.elim
  | _ :: _, _ :: _, hn, ⟨⟨h1, h2⟩, h3⟩ => by
    simp only [List.map_cons, csHas, Bool.or_eq_false_iff] at hn
    exact ⟨⟨h1, h2.unnil hn.1⟩, RelCs.unnil hn.2 h3⟩
theorem RelB.unnil {τ : Nat → Value} {S : Nat → Prop} {w : World} {id : Nat} : ∀ {x : AV} {y : Value}, (frzB id nilD x).hasB id = false → RelB τ S w (frzB id nilD x) y → RelB (upd τ id (.slice none 0 0)) S w x y
  | .c _, _, hn, h => RelC.unnil hn h
  | .agg _, _, hn, ⟨us, h1, h2⟩ => ⟨us, h1, h2.unnil hn⟩
  | .tup _, _, _, h => h.elim
  | .gd _ _, _, _, h => h.elim
  | .dead, _, _, h => h.elim
theorem RelT.unnil {τ : Nat → Value} {S : Nat → Prop} {w : World} {id : Nat} : ∀ {l : List AV} {us : List Value}, avsHas id (l.map (frzB id nilD)) = false → RelT τ S w (l.map (frzB id nilD)) us → RelT (upd τ id (.slice none 0 0)) S w l us
  | [], [], _, _ => trivial
  | [], _ :: _, _, h => h.elim
  | _ :: _, [], _, h => h.elim
  | _ :: _, _ :: _, hn, ⟨h1, h3⟩ => by
    simp only [List.map_cons, avsHas, Bool.or_eq_false_iff] at hn
    exact ⟨h1.unnil hn.1, RelT.unnil hn.2 h3⟩
theorem RelA.unnil {τ : Nat → Value} {S : Nat → Prop} {w : World} {id : Nat} : ∀ {x : AV} {y : Value}, (frzA id nilD x).has id = false → RelA τ S w (frzA id nilD x) y → RelA (upd τ id (.slice none 0 0)) S w x y
  | .c _, _, hn, h => RelC.unnil hn h
  | .agg _, _, hn, ⟨us, h1, h2⟩ => ⟨us, h1, h2.unnil hn⟩
  | .tup _, _, hn, ⟨us, h1, h2⟩ => ⟨us, h1, h2.unnil hn⟩
  | .gd _ _, _, hn, ⟨h1, h2⟩ => ⟨fun hg => (h1 hg).unnil hn, h2⟩
  | .dead, _, _, _ => trivial
theorem lkH_uniq : ∀ {hp : List (Nat × Ct)} {t : Nat} {c : Ct}, (hp.map (·.1)).Nodup → (t, c) ∈ hp → lkH hp t = some c
  | [], _, _, _, h => by cases h
  | (k, v) :: r, t, c, hn, h => by
    have hn' := List.nodup_cons.1 (show (k :: r.map (·.1)).Nodup from hn)
    rcases List.mem_cons.1 h with e | h1
    · cases e; simp [lkH]
    · have : k ≠ t := fun e => hn'.1 (by rw [e]; exact List.mem_map.2 ⟨(t, c), h1, rfl⟩)
      simp only [lkH, this, if_false]
      exact lkH_uniq hn'.2 h1
theorem Spec.nilArg {P : Program} {f : FuncId} {args : List AV} {hp hp' : List (Nat × Ct)} {res : AV} (h : Spec P f args hp res hp') (id : Nat) (args0 : List AV) (hp0 : List (Nat × Ct))
    (hargs : args0 = args.map (frzA id nilD)) (hhp : hp0 = del hp id) (hc : nilChk id args hp hp' res = true) : Spec P f args0 hp0 res hp' := by
  subst hargs hhp
  simp only [nilChk, Bool.and_eq_true, Bool.not_eq_true'] at hc
  obtain ⟨c1, c2, c3, c4, c5, c6⟩ := hc
  intro w vals τ S hr hH
  have hown : ∀ b, (upd τ id (.slice none 0 0) id).ownBlock ≠ some b := by intro b; rw [upd_same]; simp [Value.ownBlock]
  have hob : ∀ b, OB (upd τ id (.slice none 0 0)) hp b → OB τ (del hp id) b := by
    rintro b ⟨p, hp1, hb⟩
    by_cases e : p.1 = id
    · rw [e] at hb; exact absurd hb (hown b)
    · exact ⟨p, mem_del.2 ⟨hp1, e⟩, by rwa [upd_ne e] at hb⟩
  have hargs' : RelAs (upd τ id (.slice none 0 0)) S w args vals := by
    clear c1 c2 c3 c4 c5 h hH
    induction args generalizing vals with
    | nil => cases vals <;> exact hr
    | cons a args ih =>
      cases vals with
      | nil => exact hr.elim
      | cons v vals =>
        simp only [List.all_cons, Bool.and_eq_true, Bool.not_eq_true'] at c6
        exact ⟨hr.1.unnil c6.1, ih c6.2 vals hr.2⟩
  have hHP : HP (upd τ id (.slice none 0 0)) S w hp := by
    refine ⟨fun p hp1 => ?_, ?_, hH.s, fun b hb p hp1 => ?_⟩
    · by_cases e : p.1 = id
      · have hnd := nodupB_spec c2
        unfold isNilRow at c1
        split at c1
        · rename_i ety sz g hl
          have hm := lkH_mem hl
          have : p = (id, .rows ety sz 0 g) := by
            obtain ⟨p1, p2⟩ := p
            simp only at e
            subst e
            have := lkH_uniq hnd hp1
            rw [hl] at this
            simp only [Option.some.injEq] at this
            rw [this]
          rw [this]
          refine ⟨[], ⟨by simp, .inl ⟨by rw [upd_same], rfl⟩⟩, fun i hi => absurd hi (by omega)⟩
        · cases c1
      · have hm := mem_del.2 ⟨hp1, e⟩
        have := hH.ct p hm
        rw [upd_ne e]
        exact RelCt.mono (τ' := upd τ id (.slice none 0 0)) ⟨fun _ h => h, fun _ _ => rfl⟩ (fun i hi => upd_ne fun e => by subst e; rw [(hpFresh_spec c3 p hm).2] at hi; cases hi) (fun _ _ => rfl) this
    · have hpw : hp.Pairwise fun p q => p.1 ≠ q.1 := List.pairwise_map.1 (nodupB_spec c2)
      refine List.Pairwise.imp_of_mem (fun {p q} hp1 hq1 hne => ⟨hne, fun b hb => ?_⟩) hpw
      by_cases e1 : p.1 = id
      · rw [e1] at hb; exact absurd hb (hown b)
      · by_cases e2 : q.1 = id
        · rw [e2]; exact hown b
        · rw [upd_ne e1] at hb
          rw [upd_ne e2]
          exact hH.apart (mem_del.2 ⟨hp1, e1⟩) (mem_del.2 ⟨hq1, e2⟩) hne b hb
    · by_cases e : p.1 = id
      · rw [e]; exact hown b
      · rw [upd_ne e]; exact hH.ss b hb p (mem_del.2 ⟨hp1, e⟩)
  refine (h w vals _ S hargs' hHP).mono ?_
  rintro e w' ⟨y, τ', S', rfl, ho⟩
  have hne : ∀ p ∈ hp', p.1 ≠ id := fun p hp1 => (hpFresh_spec c4 p hp1).1
  have hst : Stays τ' (upd τ' id (τ id)) S' S' w' w' := ⟨fun _ h => h, fun _ _ => rfl⟩
  refine ⟨y, upd τ' id (τ id), S', rfl, ⟨ho.res.mono hst (fun i hi => upd_ne fun e => by subst e; rw [c5] at hi; cases hi), ⟨fun p hp1 => ?_, ?_, ho.hp.s, fun b hb p hp1 => ?_⟩, fun p hp1 b hb => ?_, fun b hb => ?_, ⟨ho.keep.os, ho.keep.tape, ho.keep.output, ho.keep.size, fun b hb hno => ho.keep.block b hb fun hx => hno (hob b hx)⟩, fun i hi => ?_⟩⟩
  · rw [upd_ne (hne p hp1)]
    exact RelCt.mono hst (fun i hi => upd_ne fun e => by subst e; rw [(hpFresh_spec c4 p hp1).2] at hi; cases hi) (fun _ _ => rfl) (ho.hp.ct p hp1)
  · refine List.Pairwise.imp_of_mem (fun {p q} hp1 hq1 hpq => ⟨hpq.1, fun b hb => ?_⟩) ho.hp.sep
    rw [upd_ne (hne p hp1)] at hb
    rw [upd_ne (hne q hq1)]
    exact hpq.2 b hb
  · rw [upd_ne (hne p hp1)]; exact ho.hp.ss b hb p hp1
  · rw [upd_ne (hne p hp1)] at hb
    exact (ho.own p hp1 b hb).imp (hob b) (fun h => h)
  · exact (ho.so b hb).imp (fun h => h) fun h => h.imp (hob b) (fun h => h)
  · by_cases e : i = id
    · subst e; rw [upd_same]
    · rw [upd_ne e, ho.base i hi, upd_ne e]
end Go.Abs
