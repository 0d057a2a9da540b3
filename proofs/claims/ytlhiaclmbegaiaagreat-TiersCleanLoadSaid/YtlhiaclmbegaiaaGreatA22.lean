/- DERIVED. Own theory, part 22: a byte slice made of a constant string is marked; function values called under a condition. -/
import Derived.Test.YtlhiaclmbegaiaaGreatA21
set_option linter.unusedVariables false
set_option linter.unusedSimpArgs false
namespace Go.Abs
section
variable {P : Program} {N : Nat} {ρ : Type}

theorem setHp_same : ∀ {hp : List (Nat × Ct)} {id : Nat} {c : Ct}, lkH hp id = some c → setHp hp id c = hp
  | [], _, _, h => by simp [lkH] at h
  | (k, v) :: r, id, c, h => by
    unfold lkH at h
    unfold setHp
    split at h
    · rename_i e
      cases h
      rw [if_pos e]
    · rename_i e
      rw [if_neg e, setHp_same h]
theorem WO.mark {ops : Array Oper} {i : Nat} {l : List Nat} {st : ASt} {Q : Exit → ASt → Prop} {o : Oper} {t id ety n : Nat} {g : Nat → Nat → DV} {x : Operand}
    (ho : ops[i]? = some o) (hop : o.op = .convert t t x) (hgd : o.guard = none) (hx : opA st.fr x = .c (.nm id)) (hl : lkH st.hp id = some (.rows ety 1 n g)) (hn : 0 < n)
    (hut : P.underlying t = some (.slice ety)) (hue : P.underlying ety = some (.int .u8)) (hd : dstOk N o.dst = true)
    (k : WO P N ops l ⟨putF st.fr o.dst (.c (.nm id)), st.hp⟩ Q) : WO P N ops (i :: l) st Q := by
  intro E τ S a w hE h
  have hw : Region.wanted o (yielded ops a.tmps) = true := by simp [Region.wanted, hgd]
  have hrx := h.opA x
  rw [hx] at hrx
  have hy : a.eval x = τ id := hrx
  obtain ⟨xs, hown, hc⟩ := h.hp.rows hl
  obtain ⟨b, cap, cur, fz, hτ, hg, hfz, hnc, hcm, hcs, htake⟩ := hown.own hn
  let w' : World := w.freeze ⟨b, cur.size, none⟩ 1
  have hshape : w.shape? b = some (ety, cur.size) := by simp only [World.shape?, hg]
  have hrun : (convert t t (τ id)).run P w = .ok (τ id) w' := by
    rw [hτ]
    simp [convert, run_underlying hut, run_underlying hue, markStringish, hshape, w']
  have hlt : b < w.heap.size := (Array.getElem?_eq_some_iff.1 hg).1
  have hgr : w.grownBy w' (some b) := by
    refine ⟨rfl, rfl, rfl, by simp [w', World.freeze], fun k hk hkb => ?_⟩
    simp only [w', World.freeze, if_neg (by decide : ¬ (1 = 0)), Array.getElem?_modify]
    rw [if_neg (fun e => hkb (by rw [e]))]
  have hheap : ∃ fz', okFz fz' cur.size ∧ w'.heap[b]? = some (.cells cur ety fz') := by
    simp only [w', World.freeze, if_neg (by decide : ¬ (1 = 0)), Array.getElem?_modify, if_pos]
    rw [hg]
    simp only [Option.map_some]
    refine ⟨_, ?_, rfl⟩
    obtain ⟨lo, hi⟩ := fz
    rcases hfz with h1 | h1
    · have h1 : hi = lo := h1
      subst h1
      exact .inr (by simp)
    · have h1 : cur.size ≤ lo := h1
      refine .inr ?_
      show cur.size ≤ (if (lo == hi) = true then (cur.size, cur.size + 1) else (min lo cur.size, max hi (cur.size + 1))).1
      split
      · exact Nat.le_refl _
      · show cur.size ≤ min lo cur.size
        omega
  obtain ⟨fz', hfz', hheap⟩ := hheap
  have hnS : ∀ b', some b = some b' → ¬ S b' := fun b' hb' hS => by cases hb'; exact h.hp.ss _ hS _ (lkH_mem hl) (by rw [hτ]; rfl)
  have hst : Stays τ τ S S w w' := stays_of hgr (fun _ h => h) h.hp.s hnS
  have hC := h.write hl (w' := w') (b := b) (by rw [hτ]; rfl) hgr (ct' := .rows ety 1 n g) ⟨xs, ⟨hown.1, .inr ⟨b, cap, cur, fz', hτ, hheap, hfz', hnc, hcm, hcs, htake⟩⟩, fun i hi j hj => by
    obtain ⟨u, h1, h2, h3⟩ := hc i hi j hj
    exact ⟨u, h1, h2, RelD.mono (fun _ h => h) hst.h _ _ h3⟩⟩
  rw [setHp_same hl] at hC
  refine wpOps_do ho hw (y := τ id) (w' := w') (by simp [execOp, hop, hy, hrun]) (k E τ S _ w' hE (hC.put (hE ▸ dst_lt hd) rfl))
def cvT (o : Oper) : Nat := match o.op with | .convert t _ _ => t | _ => 0
def cvX (o : Oper) : Operand := match o.op with | .convert _ _ x => x | _ => .const undef
def Step.mark (id ety n : Nat) (g : Nat → Nat → DV) : Step P N :=
  .op (fun _ o st => .and (.eq o.op (.convert (cvT o) (cvT o) (cvX o))) (.and (.eq o.guard none) (.and (.eq (opA st.fr (cvX o)) (.c (.nm id))) (.and (.eq (lkH st.hp id) (some (.rows ety 1 n g))) (.and (.eq (Nat.blt 0 n) true) (.and (.eq (P.underlying (cvT o)) (some (.slice ety))) (.and (.eq (P.underlying ety) (some (.int .u8))) (.eq (dstOk N o.dst) true))))))))
    (fun _ o st => ⟨putF st.fr o.dst (.c (.nm id)), st.hp⟩)
    (fun ops o i l st Q ho hx k => by
      obtain ⟨h1, h2, h3, h4, h5, h6, h7, h8⟩ := hx
      exact WO.mark ho h1 h2 h3 h4 (Nat.blt_eq.mp h5) h6 h7 h8 k)

/-! ### A function value called under a condition -/
theorem WO.callVG {ops : Array Oper} {i : Nat} {l : List Nat} {st : ASt} {hp2 : List (Nat × Ct)} {Q : Exit → ASt → Prop} {o : Oper} {c : Call} {x : Operand} {f : FuncId} {caps args : List AV} {hp0 hp' : List (Nat × Ct)} {res v : AV} (g : Bool)
    (old : List (Nat × Nat)) (ho : ops[i]? = some o) (hop : o.op = .call c) (hcal : c.callee = .value x) (hcv : calleeOf (stripA (opA st.fr x)) = some (f, caps)) (hg : guardOf st.fr ops o = some (some g)) (hcb : callable P f = true) (spec : g = true → Spec P f args hp0 res hp')
    (hargs : (c.args.toList.map fun x => stripA (opA st.fr x)) ++ caps = args.map (renA (asc old))) (p : Ob) (how : owes (some g) st.fr (x :: c.args.toList) = p) (hob : ob p) (hlk : lkAll st.hp (asc old) hp0)
    (hchk : (nodupB (hp0.map fun p => asc old p.1) && ((hp0.all fun p => decide (p.1 < newId)) &&
      (avIn ((hp0.map fun p => (p.1, asc old p.1))) res && (hpIn ((hp0.map fun p => (p.1, asc old p.1))) hp' && dstOk N o.dst)))) = true)
    (hv : v = renA (asc ((hp0.map fun p => (p.1, asc old p.1)))) res) (ht : g = true → hp2 = renHp (asc ((hp0.map fun p => (p.1, asc old p.1)))) hp' ++ delAll st.hp (hp0.map fun p => asc old p.1)) (hf : g = false → hp2 = st.hp)
    (k : WO P N ops l ⟨putF st.fr o.dst (gdA (some g) v), hp2⟩ Q) : WO P N ops (i :: l) st Q := by
  simp only [Bool.and_eq_true] at hchk
  obtain ⟨c1, c3, c5, c6, c7⟩ := hchk
  subst hv
  intro E τ S a w hE h
  obtain ⟨_, w2⟩ := wanted_of h hg
  cases g with
  | false =>
    have := hf rfl
    subst this
    exact wpOps_not ho (w2 false rfl) (k E τ S _ w hE (h.put (hE ▸ dst_lt c7) gdA_undef))
  | true =>
    have := ht rfl
    subst this
    have hw : Region.wanted o (yielded ops a.tmps) = true := w2 true rfl
    have howes : ∀ x' ∈ x :: c.args.toList, ob (owe1 (some true) (opA st.fr x')) := owes_mem (by rw [how]; exact hob)
    obtain ⟨us, hus, hcr⟩ := calleeOf_run hcv (strip_rel (h.opA x) (howes x (by simp)) (fun g hg => by cases hg; rfl))
    have hrun : (execOp a.eval o).run P w = .ok (.enter f (c.args.toList.map a.eval ++ us).toArray) w := by
      have e : c.args.map a.eval ++ us.toArray = (c.args.toList.map a.eval ++ us).toArray := by apply Array.ext'; simp
      simp [execOp, hop, resolve, hcal, hus, Deferred.ofValue, invoke, callFunc_run hcb, e]
    simp only [wpOps, ho, hw, if_true]
    refine .inl ?_
    simp only [Oper.wp, hrun, Oper.upon]
    have hH : HP (fun i => τ (asc old i)) S w hp0 := by
      have hmem := lkAll_mem hlk
      refine ⟨fun p hp => (h.hp.ct _ (hmem p hp)).unren, ?_, h.hp.s, fun b hb p hp => h.hp.ss b hb _ (hmem p hp)⟩
      have hnd := nodupB_spec c1
      have hpw : hp0.Pairwise fun p q => asc old p.1 ≠ asc old q.1 := List.pairwise_map.1 hnd
      exact List.Pairwise.imp_of_mem (fun {p q} hp hq hne => ⟨fun e => hne (by rw [e]), fun b hb => h.hp.apart (hmem p hp) (hmem q hq) hne b hb⟩) hpw
    have hra : RelAs (fun i => τ (asc old i)) S w args (c.args.toList.map a.eval ++ us) := by
      refine RelAs.unren ?_
      rw [← hargs]
      refine RelAs.append ?_ hcr
      exact RelAs.map (ρA := fun x => stripA (opA st.fr x)) fun y hy => strip_rel (h.opA y) (howes y (List.mem_cons_of_mem _ hy)) (fun g hg => by cases hg; rfl)
    refine ((spec rfl) w (c.args.toList.map a.eval ++ us) (fun i => τ (asc old i)) S hra hH).mono ?_
    rintro e w' ⟨y, τ', S', rfl, hout⟩
    have c5' : avIn ([] ++ (hp0.map fun p => (p.1, asc old p.1))) res = true := c5
    have c6' : hpIn ([] ++ (hp0.map fun p => (p.1, asc old p.1))) hp' = true := c6
    obtain ⟨τ'', S'', hr, hc⟩ := h.called (new := []) hlk c1 rfl c3 c5' c6' hout
    refine k E τ'' S'' _ w' hE (hc.put (hE ▸ dst_lt c7) ?_)
    exact gdA_rel (fun g hg => by cases hg; rfl) hr
noncomputable def Cert.callVG {α : Type} {args : List AV} {hp0 : List (Nat × Ct)} {hp' : α → List (Nat × Ct)} {res : α → AV} {f : FuncId} (g : Bool) (m : Option α) (d : α) (old : List (Nat × Nat)) (p : Ob) (hp : ob p) (spec : ∀ r, m = some r → Spec P f args hp0 (res r) (hp' r)) (z : α → Cert P N ρ) : Cert P N ρ where
  f c K st := match c with
    | .ops ops (i :: l) => match ops[i]? with
      | some o => (.and (.and (isCall o) (.and (.eq (callOf o).callee (.value (calX o))) (.and (.eq (guardOf st.fr ops o) (some (some g))) (.and (.eq (callable P f) true) (.and (match calleeOf (stripA (opA st.fr (calX o))) with | some (f', caps) => .and (.eq f' f) (.eq (((callOf o).args.toList.map fun x => stripA (opA st.fr x)) ++ caps) (args.map (renA (asc old)))) | none => .bad) (.and (.eq (owes (some g) st.fr (calX o :: (callOf o).args.toList)) p) (.and (lkEq st.hp (asc old) hp0)
            (.and (.eq (renHp (asc ((hp0.map fun p => (p.1, asc old p.1)))) (hp' d) ++ delAll st.hp (hp0.map fun p => asc old p.1)) st.hp)
            (.all fun r => (.eq (nodupB (hp0.map fun p => asc old p.1) && ((hp0.all fun p => decide (p.1 < newId)) && (avIn ((hp0.map fun p => (p.1, asc old p.1))) (res r) && (hpIn ((hp0.map fun p => (p.1, asc old p.1))) (hp' r) && dstOk N o.dst)))) true))))))))))
          (.all fun r => ((z r).f (.ops ops l) K ⟨putF st.fr o.dst (gdA (some g) (renA (asc ((hp0.map fun p => (p.1, asc old p.1)))) (res r))), renHp (asc ((hp0.map fun p => (p.1, asc old p.1)))) (hp' r) ++ delAll st.hp (hp0.map fun p => asc old p.1)⟩).1),
         bnd (_root_.cond g m (some d)) fun r => ((z r).f (.ops ops l) K ⟨putF st.fr o.dst (gdA (some g) (renA (asc ((hp0.map fun p => (p.1, asc old p.1)))) (res r))), renHp (asc ((hp0.map fun p => (p.1, asc old p.1)))) (hp' r) ++ delAll st.hp (hp0.map fun p => asc old p.1)⟩).2)
      | none => badX
    | _ => badX
  ok c K st hx r hr := by
    split at hx
    · rename_i ops i l
      split at hx
      · rename_i o ho
        simp only [ho] at hr
        obtain ⟨v, hv, hk⟩ := bindp_inv hr
        obtain ⟨⟨h1, h2, h3, h4, h5, h6, h7, h8, h9⟩, h10⟩ := hx
        have h8 : renHp (asc ((hp0.map fun p => (p.1, asc old p.1)))) (hp' d) ++ delAll st.hp (hp0.map fun p => asc old p.1) = st.hp := h8
        have kk := (z v).ok _ _ _ (h10 v) r hk
        split at h5
        · rename_i f' caps hcv
          obtain ⟨h51, h52⟩ := h5
          have h51 : f' = f := h51
          subst h51
          cases g with
          | true =>
            have hm : m = some v := hv
            exact WO.callVG (hp' := hp' v) (res := res v) true old ho (isCall_eq h1) h2 hcv h3 h4 (fun _ => spec v hm) h52 p h6 hp (lkEq_all h7) (h9 v) rfl (fun _ => rfl) (fun h => by cases h) kk
          | false =>
            have hm : some d = some v := hv
            cases hm
            exact WO.callVG (args := args) (hp0 := hp0) (hp' := hp' d) (res := res d) false old ho (isCall_eq h1) h2 hcv h3 h4 (fun h => by cases h) h52 p h6 hp (lkEq_all h7) (h9 d) rfl (fun h => by cases h) (fun _ => h8) kk
        · exact h5.elim
      · exact hx.elim
    · exact hx.elim
theorem EffD.callVG {ops : Array Oper} {V : Nat → AV} {fr : List (Nat × AV)} {j : Nat} {hp hp2 : List (Nat × Ct)} {o : Oper} {c : Call} {x : Operand} {f : FuncId} {caps args : List AV} {hp0 hp' : List (Nat × Ct)} {res v : AV} (g : Bool)
    (old : List (Nat × Nat)) (ho : ops[j]? = some o) (hop : o.op = .call c) (hcal : c.callee = .value x) (hcv : calleeOf (stripA (envD ops V fr j x)) = some (f, caps)) (hg : guardD ops V fr j o = some (some g))
    (hcb : callable P f = true) (spec : g = true → Spec P f args hp0 res hp')
    (hargs : (c.args.toList.map fun x => stripA (envD ops V fr j x)) ++ caps = args.map (renA (asc old))) (p : Ob) (how : owesD (some g) (envD ops V fr j) (x :: c.args.toList) = p) (hob : ob p) (hlk : lkAll hp (asc old) hp0)
    (hchk : (nodupB (hp0.map fun p => asc old p.1) && ((hp0.all fun p => decide (p.1 < newId)) &&
      (avIn ((hp0.map fun p => (p.1, asc old p.1))) res && (hpIn ((hp0.map fun p => (p.1, asc old p.1))) hp' && dstOk N o.dst)))) = true)
    (hv : v = renA (asc ((hp0.map fun p => (p.1, asc old p.1)))) res) (hV : V j = gdA (some g) v) (ht : g = true → hp2 = renHp (asc ((hp0.map fun p => (p.1, asc old p.1)))) hp' ++ delAll hp (hp0.map fun p => asc old p.1)) (hf : g = false → hp2 = hp) : EffD P N ops V fr j hp hp2 := by
  intro fr' henv hgrd hfresh Q hQ
  simp only [ho, Option.bind_some] at henv hgrd
  have hmem : ∀ z, z ∈ c.args.toList → z ∈ o.op.operands.toList := by
    intro z hz
    simp only [hop, Op.operands, Call.operands]; simp; exact .inr (by simpa using hz)
  have hmx : x ∈ o.op.operands.toList := by simp only [hop, Op.operands, Call.operands, hcal]; simp
  have key : ∀ l : List Operand, (∀ z ∈ l, z ∈ o.op.operands.toList) → owes (some g) fr' l = owesD (some g) (envD ops V fr j) l := by
    intro l
    induction l with
    | nil => intro _; rfl
    | cons y l ih =>
      intro hl
      simp only [owes, owesD]
      rw [henv y (hl y (by simp)), ih fun z hz => hl z (List.mem_cons_of_mem _ hz)]
  refine WO.callVG (st := ⟨fr', hp⟩) (hp2 := hp2) g old ho hop hcal (by rw [henv x hmx]; exact hcv) (guardD_eq hg hgrd) hcb spec ?_ p ?_ hob hlk hchk hv ht hf (WO.nil ?_)
  · rw [← hargs]
    congr 1
    refine List.map_congr_left fun x hx => ?_
    rw [henv x (hmem x hx)]
  · rw [← how]
    refine key _ fun z hz => ?_
    rcases List.mem_cons.1 hz with rfl | hz
    · exact hmx
    · exact hmem z hz
  · rw [hV, dstOf_eq ho] at hQ
    exact hQ
def EffC.callVG {α : Type} {args : List AV} {hp0 : List (Nat × Ct)} {hp' : α → List (Nat × Ct)} {res : α → AV} {f : FuncId} (j : Nat) (g : Bool) (m : Option α) (d r : α) (hr : _root_.cond g m (some d) = some r) (old : List (Nat × Nat)) (p : Ob) (hp : ob p) (spec : ∀ r, m = some r → Spec P f args hp0 (res r) (hp' r)) : EffC P N where
  j := j
  v := gdA (some g) (renA (asc (hp0.map fun p => (p.1, asc old p.1))) (res r))
  h hp := renHp (asc (hp0.map fun p => (p.1, asc old p.1))) (hp' r) ++ delAll hp (hp0.map fun p => asc old p.1)
  x ops V fr hp o := .and (isCall o) (.and (.eq (callOf o).callee (.value (calX o))) (.and (.eq (guardD ops V fr j o) (some (some g))) (.and (.eq (callable P f) true) (.and (match calleeOf (stripA (envD ops V fr j (calX o))) with | some (f', caps) => .and (.eq f' f) (.eq (((callOf o).args.toList.map fun x => stripA (envD ops V fr j x)) ++ caps) (args.map (renA (asc old)))) | none => .bad) (.and (.eq (owesD (some g) (envD ops V fr j) (calX o :: (callOf o).args.toList)) p) (.and (lkEq hp (asc old) hp0)
      (.and (.eq (renHp (asc (hp0.map fun p => (p.1, asc old p.1))) (hp' d) ++ delAll hp (hp0.map fun p => asc old p.1)) hp)
      (.eq (nodupB (hp0.map fun p => asc old p.1) && ((hp0.all fun p => decide (p.1 < newId)) && (avIn ((hp0.map fun p => (p.1, asc old p.1))) (res r) && (hpIn ((hp0.map fun p => (p.1, asc old p.1))) (hp' r) && dstOk N o.dst)))) true))))))))
  ok ops V fr hp2 o ho hv hx := by
    obtain ⟨h1, h2, h3, h4, h5, h6, h7, h8, h9⟩ := hx
    have h8 : renHp (asc (hp0.map fun p => (p.1, asc old p.1))) (hp' d) ++ delAll hp2 (hp0.map fun p => asc old p.1) = hp2 := h8
    split at h5
    · rename_i f' caps hcv
      obtain ⟨h51, h52⟩ := h5
      have h51 : f' = f := h51
      subst h51
      refine EffD.callVG (hp' := hp' r) (res := res r) g old ho (isCall_eq h1) h2 hcv h3 h4 (fun hg => spec r ?_) h52 p h6 hp (lkEq_all h7) h9 rfl hv (fun _ => rfl) (fun hg => ?_)
      · subst hg; exact hr
      · subst hg
        have hr : some d = some r := hr
        cases hr
        exact h8
    · exact h5.elim
theorem CImp.tab {sz n : Nat} {g g' : Nat → Nat → DV} {n' : Nat} (h : (n, (List.range n).map fun i => (List.range sz).map (g i)) = (n', (List.range n).map fun i => (List.range sz).map (g' i))) : CImp (.d (.ro sz n g)) (.d (.ro sz n' g')) := by
  simp only [Prod.mk.injEq] at h
  refine CImp.ro h.1 fun i hi j hj => ?_
  have := congrArg (fun l => l[i]?) h.2
  simp only [List.getElem?_map, List.getElem?_range hi, Option.map_some, Option.some.injEq] at this
  exact cells_eq this j hj
end
end Go.Abs
