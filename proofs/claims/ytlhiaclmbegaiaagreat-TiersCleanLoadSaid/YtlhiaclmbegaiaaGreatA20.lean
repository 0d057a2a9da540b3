/- DERIVED. Own theory, part 20: calls of function values; boxes made read-only; sub-slices of named rows, clear, cut; nil cells that become rows; variables made in regions that draw their order. -/
import Derived.Test.YtlhiaclmbegaiaaGreatA19
set_option linter.unusedVariables false
set_option linter.unusedSimpArgs false
namespace Go.Abs
section
variable {P : Program} {N : Nat} {ρ : Type}

/-! ### Function values -/
theorem RelC.unren {τ S w} {ρ : Nat → Nat} {c : C} {y : Value} (h : RelC τ S w (renC ρ c) y) : RelC (fun i => τ (ρ i)) S w c y := by cases c <;> exact h
theorem RelCs.unren {τ S w} {ρ : Nat → Nat} : ∀ {cs : List C} {us : List Value}, RelCs τ S w (cs.map (renC ρ)) us → RelCs (fun i => τ (ρ i)) S w cs us
  | [], [], _ => trivial
  | [], _ :: _, h => h.elim
  | _ :: _, [], h => h.elim
  | _ :: _, _ :: _, h => ⟨⟨h.1.1, h.1.2.unren⟩, h.2.unren⟩
theorem RelB.unren {τ S w} {ρ : Nat → Nat} {v : AV} {y : Value} (h : RelB τ S w (renB ρ v) y) : RelB (fun i => τ (ρ i)) S w v y := by
  cases v with
  | c x => exact RelC.unren h
  | agg l => obtain ⟨us, h1, h2⟩ := h; exact ⟨us, h1, h2.unren⟩
  | _ => exact h.elim
theorem RelT.unren {τ S w} {ρ : Nat → Nat} : ∀ {vs : List AV} {us : List Value}, RelT τ S w (vs.map (renB ρ)) us → RelT (fun i => τ (ρ i)) S w vs us
  | [], [], _ => trivial
  | [], _ :: _, h => h.elim
  | _ :: _, [], h => h.elim
  | _ :: _, _ :: _, h => ⟨h.1.unren, h.2.unren⟩
theorem RelA.unren {τ S w} {ρ : Nat → Nat} {v : AV} {y : Value} (h : RelA τ S w (renA ρ v) y) : RelA (fun i => τ (ρ i)) S w v y := by
  cases v with
  | c x => exact RelC.unren h
  | agg l => obtain ⟨us, h1, h2⟩ := h; exact ⟨us, h1, h2.unren⟩
  | tup l => obtain ⟨us, h1, h2⟩ := h; exact ⟨us, h1, h2.unren⟩
  | gd g x => exact ⟨fun hg => (h.1 hg).unren, h.2⟩
  | dead => trivial
theorem RelAs.unren {τ S w} {ρ : Nat → Nat} : ∀ {vs : List AV} {us : List Value}, RelAs τ S w (vs.map (renA ρ)) us → RelAs (fun i => τ (ρ i)) S w vs us
  | [], [], _ => trivial
  | [], _ :: _, h => h.elim
  | _ :: _, [], h => h.elim
  | _ :: _, _ :: _, h => ⟨h.1.unren, h.2.unren⟩
theorem RelAs.map {τ S w} {ρA : Operand → AV} {ρv : Operand → Value} : ∀ {l : List Operand}, (∀ x ∈ l, RelA τ S w (ρA x) (ρv x)) → RelAs τ S w (l.map ρA) (l.map ρv)
  | [], _ => trivial
  | x :: l, h => ⟨h x (by simp), RelAs.map fun y hy => h y (List.mem_cons_of_mem _ hy)⟩
theorem RelAs.append {τ S w} : ∀ {a b : List AV} {u v : List Value}, RelAs τ S w a u → RelAs τ S w b v → RelAs τ S w (a ++ b) (u ++ v)
  | [], _, [], _, _, h => h
  | [], _, _ :: _, _, h, _ => h.elim
  | _ :: _, _, [], _, h, _ => h.elim
  | _ :: _, _, _ :: _, _, h, h2 => ⟨h.1, h.2.append h2⟩

/-- What a function value calls: the function, and what it hands on behind the arguments. -/
def calleeOf : AV → Option (FuncId × List AV)
  | .c (.d (.v (.func (.func f) fi ca))) => match fi.toList, ca.toList with
    | [], [] => some (f, [])
    | _, _ => none
  | .c (.d (.fn f k n g)) => some (f, (List.range k).map fun i => .c (.d (.rp (n i) (g i))))
  | _ => none
theorem calleeOf_run {τ S w} {a : AV} {y : Value} {f : FuncId} {caps : List AV} (h : calleeOf a = some (f, caps)) (hr : RelA τ S w a y) : ∃ us : List Value, y = .func (.func f) #[] us.toArray ∧ RelAs τ S w caps us := by
  unfold calleeOf at h
  split at h
  · rename_i f' fi ca
    split at h
    · rename_i h1 h2
      cases h
      have e1 : fi = #[] := by apply Array.ext'; simpa using h1
      have e2 : ca = #[] := by apply Array.ext'; simpa using h2
      subst e1 e2
      exact ⟨[], hr, trivial⟩
    · cases h
  · rename_i f' k n g
    cases h
    obtain ⟨us, hy, hl, hall⟩ := hr
    refine ⟨us, hy, ?_⟩
    subst hl
    clear hy
    have key : ∀ (vs : List Value) (i0 : Nat), (∀ i, i < vs.length → ∃ b o, vs[i]? = some (.pointer (some ⟨b, o, none⟩)) ∧ S b ∧ ∀ j, j < n (i0 + i) → ∃ u, w.cell? ⟨b, o + j, none⟩ = some u ∧ u.oneCell' = true ∧ RelD S w (g (i0 + i) j) u) →
        RelAs τ S w ((List.range' i0 vs.length).map fun i => .c (.d (.rp (n i) (g i)))) vs := by
      intro vs
      induction vs with
      | nil => intro _ _; trivial
      | cons v vs ih =>
        intro i0 h
        rw [List.length_cons, List.range'_succ, List.map_cons]
        refine ⟨?_, ih (i0 + 1) fun i hi => ?_⟩
        · obtain ⟨b, o, h1, h2, h3⟩ := h 0 (by simp)
          simp only [List.getElem?_cons_zero, Option.some.injEq] at h1
          exact ⟨b, o, h1, h2, fun j hj => h3 j hj⟩
        · obtain ⟨b, o, h1, h2, h3⟩ := h (i + 1) (by simpa using hi)
          simp only [List.getElem?_cons_succ] at h1
          rw [show i0 + (i + 1) = i0 + 1 + i from by omega] at h3
          exact ⟨b, o, h1, h2, h3⟩
    rw [List.range_eq_range']
    exact key us 0 fun i hi => by simpa using hall i hi
  · cases h
theorem WO.callV {ops : Array Oper} {i : Nat} {l : List Nat} {st : ASt} {Q : Exit → ASt → Prop} {o : Oper} {c : Call} {x : Operand} {f : FuncId} {caps args : List AV} {hp0 hp' : List (Nat × Ct)} {res : AV}
    (old new : List (Nat × Nat)) (ho : ops[i]? = some o) (hop : o.op = .call c) (hcal : c.callee = .value x) (hcv : calleeOf (opA st.fr x) = some (f, caps)) (hg : o.guard = none) (hcb : callable P f = true) (spec : Spec P f args hp0 res hp')
    (hargs : c.args.toList.map (opA st.fr) ++ caps = args.map (renA (asc old))) (hlk : lkAll st.hp (asc old) hp0)
    (hchk : (nodupB (hp0.map fun p => asc old p.1) && (freshAll st new && ((hp0.all fun p => decide (p.1 < newId)) &&
      (avIn (new ++ (hp0.map fun p => (p.1, asc old p.1))) res && (hpIn (new ++ (hp0.map fun p => (p.1, asc old p.1))) hp' && dstOk N o.dst))))) = true)
    (k : WO P N ops l ⟨putF st.fr o.dst (renA (asc (new ++ (hp0.map fun p => (p.1, asc old p.1)))) res), renHp (asc (new ++ (hp0.map fun p => (p.1, asc old p.1)))) hp' ++ delAll st.hp (hp0.map fun p => asc old p.1)⟩ Q) :
    WO P N ops (i :: l) st Q := by
  simp only [Bool.and_eq_true] at hchk
  obtain ⟨c1, c2, c3, c5, c6, c7⟩ := hchk
  intro E τ S a w hE h
  have hw : Region.wanted o (yielded ops a.tmps) = true := by simp [Region.wanted, hg]
  obtain ⟨us, hus, hcr⟩ := calleeOf_run hcv (h.opA x)
  have hrun : (execOp a.eval o).run P w = .ok (.enter f (c.args.toList.map a.eval ++ us).toArray) w := by
    have e : c.args.map a.eval ++ us.toArray = (c.args.toList.map a.eval ++ us).toArray := by apply Array.ext'; simp
    simp [execOp, hop, resolve, hcal, hus, Deferred.ofValue, invoke, callFunc_run hcb, e]
  simp only [wpOps, ho, hw, if_true]
  refine .inl ?_
  simp only [Oper.wp, hrun, Oper.upon]
  have hH : HP (fun i => τ (asc old i)) S w hp0 := by
    have hmem := lkAll_mem hlk
    refine ⟨fun p hp => (h.hp.ct _ (hmem p hp)).unren, ?_, h.hp.s, fun b hb p hp => h.hp.ss b hb _ (hmem p hp)⟩
    have hnd := nodupB_spec c1
    have hpw : hp0.Pairwise fun p q => asc old p.1 ≠ asc old q.1 := List.pairwise_map.1 hnd
    exact List.Pairwise.imp_of_mem (fun {p q} hp hq hne => ⟨fun e => hne (by rw [e]), fun b hb => h.hp.apart (hmem p hp) (hmem q hq) hne b hb⟩) hpw
  have hra : RelAs (fun i => τ (asc old i)) S w args (c.args.toList.map a.eval ++ us) := by
    refine RelAs.unren ?_
    rw [← hargs]
    exact (RelAs.map fun x _ => h.opA x).append hcr
  refine (spec w (c.args.toList.map a.eval ++ us) (fun i => τ (asc old i)) S hra hH).mono ?_
  rintro e w' ⟨y, τ', S', rfl, hout⟩
  obtain ⟨τ'', S'', hr, hc⟩ := h.called hlk c1 c2 c3 c5 c6 hout
  exact k E τ'' S'' _ w' hE (hc.put (hE ▸ dst_lt c7) hr)
def calX (o : Oper) : Operand := match (callOf o).callee with | .value x => x | _ => .const undef
def Step.callV {args : List AV} {hp0 hp' : List (Nat × Ct)} {res : AV} {f : FuncId} (old new : List (Nat × Nat)) (spec : Spec P f args hp0 res hp') : Step P N :=
  .op (fun _ o st => .and (isCall o) (.and (.eq (callOf o).callee (.value (calX o))) (.and (.eq o.guard none) (.and (.eq (callable P f) true)
      (.and (match calleeOf (opA st.fr (calX o)) with
        | some (f', caps) => .and (.eq f' f) (.eq ((callOf o).args.toList.map (opA st.fr) ++ caps) (args.map (renA (asc old))))
        | none => .bad) (.and (lkEq st.hp (asc old) hp0)
      (.eq (nodupB (hp0.map fun p => asc old p.1) && (freshAll st new && ((hp0.all fun p => decide (p.1 < newId)) && (avIn (new ++ (hp0.map fun p => (p.1, asc old p.1))) res && (hpIn (new ++ (hp0.map fun p => (p.1, asc old p.1))) hp' && dstOk N o.dst))))) true)))))))
    (fun _ o st => ⟨putF st.fr o.dst (renA (asc (new ++ (hp0.map fun p => (p.1, asc old p.1)))) res), renHp (asc (new ++ (hp0.map fun p => (p.1, asc old p.1)))) hp' ++ delAll st.hp (hp0.map fun p => asc old p.1)⟩)
    (fun ops o i l st Q ho hx k => by
      obtain ⟨h1, h2, h3, h4, h5, h6, h7⟩ := hx
      split at h5
      · rename_i f' caps hcv
        obtain ⟨h51, h52⟩ := h5
        have h51 : f' = f := h51
        subst h51
        exact WO.callV old new ho (isCall_eq h1) h2 hcv h3 h4 spec h52 (lkEq_all h6) h7 k
      · exact h5.elim)

/-! ### A box made read-only -/
def fbC (id : Nat) (d : DV) : C → C
  | .np i sz a b => if i = id ∧ a = 0 ∧ b = 0 then .d d else .np i sz a b
  | c => c
def fbB (id : Nat) (d : DV) : AV → AV
  | .c x => .c (fbC id d x)
  | .agg l => .agg (l.map (fbC id d))
  | x => x
def fbA (id : Nat) (d : DV) : AV → AV
  | .c x => .c (fbC id d x)
  | .agg l => .agg (l.map (fbC id d))
  | .tup l => .tup (l.map (fbB id d))
  | .gd g x => .gd g (fbB id d x)
  | .dead => .dead
def fbCt (id : Nat) (d : DV) : Ct → Ct
  | .rows e sz n g => .rows e sz n g
  | .box e l => .box e (l.map (fbC id d))
def fbSt (id : Nat) (d : DV) (st : ASt) : ASt := ⟨st.fr.map fun p => (p.1, fbA id d p.2), (del st.hp id).map fun p => (p.1, fbCt id d p.2)⟩
section
variable {τ : Nat → Value} {S : Nat → Prop} {w : World} {id b : Nat} {d : DV}
theorem RelC.fb {x : C} {y : Value} (hb : (τ id).ownBlock = some b) (hd : RelD S w d (.pointer (some ⟨b, 0, none⟩))) (hr : RelC τ S w x y) : RelC τ S w (fbC id d x) y := by
  cases x with
  | np i sz a c =>
    show RelC τ S w (if i = id ∧ a = 0 ∧ c = 0 then .d d else .np i sz a c) y
    split
    · rename_i e
      obtain ⟨rfl, rfl, rfl⟩ := e
      obtain ⟨b', hb', rfl⟩ := hr
      rw [hb] at hb'
      cases hb'
      show RelD S w d (.pointer (some ⟨b, 0 * sz + 0, none⟩))
      simpa using hd
    · exact hr
  | d x => exact hr
  | nm i => exact hr
  | ns i sz a c => exact hr
theorem RelCs.fb (hb : (τ id).ownBlock = some b) (hd : RelD S w d (.pointer (some ⟨b, 0, none⟩))) : ∀ {l : List C} {us : List Value}, RelCs τ S w l us → RelCs τ S w (l.map (fbC id d)) us
  | [], [], _ => trivial
  | [], _ :: _, h => h.elim
  | _ :: _, [], h => h.elim
  | _ :: _, _ :: _, ⟨⟨h1, h2⟩, h3⟩ => ⟨⟨h1, h2.fb hb hd⟩, h3.fb hb hd⟩
theorem RelB.fb (hb : (τ id).ownBlock = some b) (hd : RelD S w d (.pointer (some ⟨b, 0, none⟩))) : ∀ {x : AV} {y : Value}, RelB τ S w x y → RelB τ S w (fbB id d x) y
  | .c _, _, h => RelC.fb hb hd h
  | .agg _, _, ⟨us, h1, h2⟩ => ⟨us, h1, h2.fb hb hd⟩
  | .tup _, _, h => h.elim
  | .gd _ _, _, h => h.elim
  | .dead, _, h => h.elim
theorem RelT.fb (hb : (τ id).ownBlock = some b) (hd : RelD S w d (.pointer (some ⟨b, 0, none⟩))) : ∀ {l : List AV} {us : List Value}, RelT τ S w l us → RelT τ S w (l.map (fbB id d)) us
  | [], [], _ => trivial
  | [], _ :: _, h => h.elim
  | _ :: _, [], h => h.elim
  | _ :: _, _ :: _, ⟨h1, h3⟩ => ⟨h1.fb hb hd, h3.fb hb hd⟩
theorem RelA.fb (hb : (τ id).ownBlock = some b) (hd : RelD S w d (.pointer (some ⟨b, 0, none⟩))) : ∀ {x : AV} {y : Value}, RelA τ S w x y → RelA τ S w (fbA id d x) y
  | .c _, _, h => RelC.fb hb hd h
  | .agg _, _, ⟨us, h1, h2⟩ => ⟨us, h1, h2.fb hb hd⟩
  | .tup _, _, ⟨us, h1, h2⟩ => ⟨us, h1, h2.fb hb hd⟩
  | .gd _ _, _, ⟨h1, h2⟩ => ⟨fun hg => (h1 hg).fb hb hd, h2⟩
  | .dead, _, _ => trivial
end
theorem Cfg.fb {E τ S st a w} (h : Cfg E τ S st a w) {id ety : Nat} {cs : List C} {ds : List DV} {g : Nat → DV} (hl : lkH st.hp id = some (.box ety cs)) (hds : dataOf cs = some ds) (hgd : ∀ j, j < cs.length → g j = ds.getD j (.v undef)) :
    Cfg E τ (fun b => S b ∨ (τ id).ownBlock = some b) (fbSt id (.rp cs.length g) st) a w := by
  obtain ⟨b, us, hτ, hh, hr⟩ := h.hp.box hl
  have hm := lkH_mem hl
  have hb : (τ id).ownBlock = some b := by rw [hτ]; rfl
  have hs : Stays τ τ S (fun b => S b ∨ (τ id).ownBlock = some b) w w := ⟨fun b hb => .inl hb, fun _ _ => rfl⟩
  obtain ⟨hdl, hdat⟩ := dataOf_rel hds hr
  have hd : RelD (fun b => S b ∨ (τ id).ownBlock = some b) w (.rp cs.length g) (.pointer (some ⟨b, 0, none⟩)) := by
    refine ⟨b, 0, rfl, .inr hb, fun j hj => ?_⟩
    have hj' : j < ds.length := by rw [hdl, ← hr.len]; exact hj
    obtain ⟨u, h1, h2, h3⟩ := hdat j hj'
    refine ⟨u, ?_, h2, ?_⟩
    · simp only [World.cell?, hh, Nat.zero_add]
      simpa using h1
    · rw [hgd j hj]
      exact RelD.mono (fun b hb => .inl hb) (fun _ _ => rfl) _ _ h3
  refine ⟨h.df, h.sz, ?_, ⟨?_, ?_, ?_, ?_⟩, ?_, ?_, h.keep, h.base⟩
  · intro p hp
    obtain ⟨q, hq, rfl⟩ := List.mem_map.1 hp
    obtain ⟨v, hv, hr⟩ := h.fr q hq
    exact ⟨v, hv, (hr.mono hs fun _ _ => rfl).fb hb hd⟩
  · intro p hp
    obtain ⟨q, hq, rfl⟩ := List.mem_map.1 hp
    have hq0 := (mem_del.1 hq).1
    have hr := (h.hp.ct q hq0).mono hs (fun _ _ => rfl) (fun _ _ => rfl)
    obtain ⟨qi, qc⟩ := q
    cases qc with
    | rows e sz n g => exact hr
    | box e l =>
      obtain ⟨b', us', h1, h2, h3⟩ := hr
      exact ⟨b', us', h1, h2, h3.fb hb hd⟩
  · unfold fbSt
    rw [List.pairwise_map]
    exact del_pairwise h.hp.sep
  · rintro b (hb | hb)
    · exact h.hp.s b hb
    · exact (h.hp.ct _ hm).lt b hb
  · rintro b (hb | hb) p hp
    · obtain ⟨q, hq, rfl⟩ := List.mem_map.1 hp
      exact h.hp.ss b hb q (mem_del.1 hq).1
    · obtain ⟨q, hq, rfl⟩ := List.mem_map.1 hp
      obtain ⟨hq0, hqne⟩ := mem_del.1 hq
      exact h.hp.apart hm hq0 (Ne.symm hqne) b hb
  · intro p hp
    obtain ⟨q, hq, rfl⟩ := List.mem_map.1 hp
    exact h.own q (mem_del.1 hq).1
  · rintro b (hb | hb)
    · exact h.so b hb
    · exact .inr (h.own _ hm b hb)
def fbGet (one : Bool) (ds : List DV) : Nat → DV := match one with
  | true => fun _ => ds.getD 0 (.v undef)
  | false => fun j => ds.getD j (.v undef)
def fbOf (st : ASt) (id : Nat) (one : Bool) : Option ASt :=
  match lkH st.hp id with
  | some (.box _ cs) => match dataOf cs, one && !(cs.length == 1) with
    | some ds, false => some (fbSt id (.rp cs.length (fbGet one ds)) st)
    | _, _ => none
  | _ => none
def Step.fb (id : Nat) (one : Bool) : Step P N := .tr (fun st => isS (fbOf st id one)) (fun st => (fbOf st id one).getD st) (fun st hx E τ S a w hE hc => by
  cases h : fbOf st id one with
  | none => rw [h] at hx; exact hx.elim
  | some s =>
    unfold fbOf at h
    split at h
    · rename_i e cs hl
      split at h
      · rename_i ds hq h1
        cases h
        refine ⟨τ, _, hc.fb hl hq fun j hj => ?_⟩
        cases one with
        | false => rfl
        | true =>
          simp at h1
          have : j = 0 := by omega
          subst this
          rfl
      · cases h
    · cases h)

/-! ### A nil cell of a box becomes a row -/
theorem RelCs.set {τ S w} : ∀ {cs : List C} {us : List Value} {k : Nat} {c : C}, RelCs τ S w cs us → (∀ u, us[k]? = some u → u.oneCell' = true → RelC τ S w c u) → RelCs τ S w (cs.set k c) us
  | [], [], _, _, _, _ => trivial
  | [], _ :: _, _, _, h, _ => h.elim
  | _ :: _, [], _, _, h, _ => h.elim
  | _ :: _, u :: _, 0, _, h, hk => ⟨⟨h.1.1, hk u rfl h.1.1⟩, h.2⟩
  | _ :: _, _ :: _, k + 1, _, h, hk => ⟨h.1, RelCs.set h.2 fun u hu => hk u (by simpa using hu)⟩
theorem Cfg.ownB {E τ S st a w} (h : Cfg E τ S st a w) {id k new ety e2 sz : Nat} {cs : List C} {g : Nat → Nat → DV} (hl : lkH st.hp id = some (.box ety cs)) (hk : cs[k]? = some (.d (.v (.slice none 0 0)))) (hid : newId ≤ new) (hf : frFresh new st.fr = true) (hf' : hpFresh new st.hp = true) :
    Cfg E (upd τ new (.slice none 0 0)) S ⟨st.fr, setHp ((new, .rows e2 sz 0 g) :: st.hp) id (.box ety (cs.set k (.nm new)))⟩ a w := by
  have hne : id ≠ new := by
    intro e
    subst e
    have := (hpFresh_spec hf' _ (lkH_mem hl)).1
    exact this rfl
  have h2 : Cfg E (upd τ new (.slice none 0 0)) S ⟨st.fr, (new, .rows e2 sz 0 g) :: st.hp⟩ a w := by
    refine h.fresh hid hf hf' (w' := w) ⟨rfl, rfl, rfl, Nat.le_refl _, fun _ _ _ => rfl⟩ (fun b hb => by simp [Value.ownBlock] at hb) ?_
    refine ⟨[], ⟨by simp, .inl ⟨by simp, rfl⟩⟩, fun i hi => absurd hi (by omega)⟩
  have hl2 : lkH ((new, .rows e2 sz 0 g) :: st.hp) id = some (.box ety cs) := by simp only [lkH, if_neg (Ne.symm hne)]; exact hl
  obtain ⟨b, us, hτ, hh, hr⟩ := h2.hp.box hl2
  refine h2.write hl2 (w' := w) (b := b) (by rw [hτ]; rfl) ⟨rfl, rfl, rfl, Nat.le_refl _, fun _ _ _ => rfl⟩ ⟨b, us, hτ, hh, hr.set fun u hu _ => ?_⟩
  show u = upd τ new (.slice none 0 0) new
  rw [upd_same]
  have hat := hr.at_
  obtain ⟨_, hat⟩ := hat
  have hk' : k < cs.length := (List.getElem?_eq_some_iff.1 hk).1
  obtain ⟨u', hu', _, hr'⟩ := hat k hk'
  rw [hu] at hu'
  cases hu'
  rw [List.getD_eq_getElem?_getD, hk] at hr'
  exact hr'
def Step.ownB (id k new e2 sz : Nat) (g : Nat → Nat → DV) : Step P N := .tr (fun st => match lkH st.hp id with
    | some (.box _ cs) => .and (.eq (cs[k]?) (some (.d (.v (.slice none 0 0))))) (.eq (decide (newId ≤ new) && (frFresh new st.fr && hpFresh new st.hp)) true)
    | _ => .bad)
  (fun st => match lkH st.hp id with
    | some (.box ety cs) => ⟨st.fr, setHp ((new, .rows e2 sz 0 g) :: st.hp) id (.box ety (cs.set k (.nm new)))⟩
    | _ => st) (fun st hx E τ S a w hE hc => by
  split at hx
  · rename_i ety cs hl
    obtain ⟨h1, h2⟩ := hx
    have h2 : (decide (newId ≤ new) && (frFresh new st.fr && hpFresh new st.hp)) = true := h2
    simp only [Bool.and_eq_true, decide_eq_true_eq] at h2
    exact ⟨_, S, hc.ownB hl h1 h2.1 h2.2.1 h2.2.2⟩
  · exact hx.elim)
end
end Go.Abs
