/- DERIVED. Own theory, part 9: calls. -/
import Derived.Test.YtlhiaclmbegaiaaGreatA8
set_option linter.unusedVariables false
set_option linter.unusedSimpArgs false
namespace Go.Abs

def callable (P : Program) (f : FuncId) : Bool :=
  match P.funcs[f]? with
  | some fn => !(fn.name == "runtime.NumGoroutine") && fn.body.isSome
  | none => false
theorem callFunc_run {P : Program} {f : FuncId} (h : callable P f = true) (args : Array Value) (w : World) : (callFunc f args).run P w = .ok (.enter f args) w := by
  unfold callable at h
  cases hf : P.funcs[f]? with
  | none => simp [hf] at h
  | some fn =>
    simp only [hf, Bool.and_eq_true, Bool.not_eq_true'] at h
    have hb : fn.body.isNone = false := by cases hx : fn.body with | none => rw [hx] at h; simp at h | some c => rfl
    simp only [callFunc, Sem.run_bind, run_program, Result.andThen_ok, hf, h.1, hb, Bool.false_eq_true, if_false, Sem.run_pure]

theorem Keep.grown_by {w w' : World} {O : Nat → Prop} (h : Keep w O w') (hO : ∀ b, ¬ O b) : w.grownBy w' none :=
  ⟨h.os, h.tape, h.output, h.size, fun b hb _ => h.block b hb (hO b)⟩

/-- The caller's names for the callee's: pairs (callee's, caller's). -/
def asc (l : List (Nat × Nat)) (i : Nat) : Nat :=
  match l with
  | [] => i
  | (a, b) :: r => if a = i then b else asc r i
def vals2 (l : List (Nat × Nat)) (τ τ' : Nat → Value) : Nat → Value :=   -- at the caller's new names: the callee's values
  match l with
  | [] => τ
  | (a, b) :: r => fun k => if k = b then τ' a else vals2 r τ τ' k
def freshAll (st : ASt) : List (Nat × Nat) → Bool
  | [] => true
  | (_, b) :: r => decide (newId ≤ b) && (frFresh b st.fr && hpFresh b st.hp) && !(r.any fun q => q.2 == b) && freshAll st r
def delAll (hp : List (Nat × Ct)) : List Nat → List (Nat × Ct)
  | [] => hp
  | i :: l => del (delAll hp l) i
theorem mem_delAll {hp : List (Nat × Ct)} : ∀ {l : List Nat} {p : Nat × Ct}, p ∈ delAll hp l ↔ p ∈ hp ∧ p.1 ∉ l
  | [], p => by simp [delAll]
  | i :: l, p => by
    simp only [delAll, mem_del, mem_delAll (l := l), List.mem_cons, not_or]
    exact ⟨fun h => ⟨h.1.1, h.2, h.1.2⟩, fun h => ⟨⟨h.1, h.2.2⟩, h.2.1⟩⟩
theorem delAll_pairwise {R : Nat × Ct → Nat × Ct → Prop} {hp : List (Nat × Ct)} (h : hp.Pairwise R) : ∀ {l : List Nat}, (delAll hp l).Pairwise R
  | [] => h
  | _ :: l => del_pairwise (delAll_pairwise h (l := l))

theorem vals2_new {τ τ' : Nat → Value} : ∀ {l : List (Nat × Nat)} {st : ASt}, freshAll st l = true → ∀ p ∈ l, vals2 l τ τ' p.2 = τ' p.1
  | [], _, _, p, hp => by cases hp
  | (a, b) :: r, st, h, p, hp => by
    simp only [freshAll, Bool.and_eq_true, Bool.not_eq_true'] at h
    simp only [vals2]
    rcases List.mem_cons.1 hp with rfl | hp1
    · simp
    · have hne : p.2 ≠ b := fun e => by
        have := h.1.2
        rw [List.any_eq_false] at this
        exact this p hp1 (by simp [e])
      rw [if_neg hne]
      exact vals2_new h.2 p hp1
theorem vals2_old {τ τ' : Nat → Value} : ∀ {l : List (Nat × Nat)} {k : Nat}, (∀ p ∈ l, p.2 ≠ k) → vals2 l τ τ' k = τ k
  | [], _, _ => rfl
  | (a, b) :: r, k, h => by
    simp only [vals2]
    rw [if_neg (Ne.symm (h (a, b) (by simp)))]
    exact vals2_old fun p hp => h p (List.mem_cons_of_mem _ hp)
theorem freshAll_spec {st : ASt} : ∀ {l : List (Nat × Nat)}, freshAll st l = true → ∀ p ∈ l, newId ≤ p.2 ∧ frFresh p.2 st.fr = true ∧ hpFresh p.2 st.hp = true
  | [], _, p, hp => by cases hp
  | (a, b) :: r, h, p, hp => by
    simp only [freshAll, Bool.and_eq_true, decide_eq_true_eq] at h
    rcases List.mem_cons.1 hp with rfl | hp1
    · exact ⟨h.1.1.1, h.1.1.2⟩
    · exact freshAll_spec h.2 p hp1

/-- The names of a contract are handed over as the list tells: old: its parameters' names, new: those of its results. -/
def inOld (l : List (Nat × Nat)) (i : Nat) : Bool := l.any fun p => p.1 == i
def csIn (l : List (Nat × Nat)) : List C → Bool
  | [] => true
  | .d _ :: r => csIn l r
  | .nm i :: r => inOld l i && csIn l r
  | .np i _ _ _ :: r => inOld l i && csIn l r
  | .ns i _ _ _ :: r => inOld l i && csIn l r
def avInB (l : List (Nat × Nat)) : AV → Bool
  | .c x => csIn l [x]
  | .agg x => csIn l x
  | .tup _ => false
  | .gd _ _ => false
  | .dead => true
def avInL (l : List (Nat × Nat)) : List AV → Bool
  | [] => true
  | x :: r => avInB l x && avInL l r
def avIn (l : List (Nat × Nat)) : AV → Bool
  | .tup x => avInL l x
  | x => avInB l x
def hpIn (l : List (Nat × Nat)) : List (Nat × Ct) → Bool
  | [] => true
  | (i, .rows ..) :: r => inOld l i && hpIn l r
  | (i, .box _ cs) :: r => inOld l i && csIn l cs && hpIn l r
theorem csIn_spec {l : List (Nat × Nat)} : ∀ {cs : List C}, csIn l cs = true → ∀ i, csHas i cs = true → inOld l i = true
  | [], _, i, h => by simp [csHas] at h
  | .d _ :: r, h, i, hi => by
    simp only [csHas, C.has, Bool.false_or] at hi
    exact csIn_spec (by simpa [csIn] using h) i hi
  | .nm k :: r, h, i, hi => by
    simp only [csIn, Bool.and_eq_true] at h
    simp only [csHas, C.has, Bool.or_eq_true, beq_iff_eq] at hi
    rcases hi with rfl | hi
    · exact h.1
    · exact csIn_spec h.2 i hi
  | .np k _ _ _ :: r, h, i, hi => by
    simp only [csIn, Bool.and_eq_true] at h
    simp only [csHas, C.has, Bool.or_eq_true, beq_iff_eq] at hi
    rcases hi with rfl | hi
    · exact h.1
    · exact csIn_spec h.2 i hi
  | .ns k _ _ _ :: r, h, i, hi => by
    simp only [csIn, Bool.and_eq_true] at h
    simp only [csHas, C.has, Bool.or_eq_true, beq_iff_eq] at hi
    rcases hi with rfl | hi
    · exact h.1
    · exact csIn_spec h.2 i hi
theorem avInB_spec {l : List (Nat × Nat)} : ∀ {x : AV}, avInB l x = true → ∀ i, x.hasB i = true → inOld l i = true
  | .c x, h, i, hi => csIn_spec (cs := [x]) h i (by simpa [csHas, AV.hasB] using hi)
  | .agg x, h, i, hi => csIn_spec h i hi
  | .tup _, h, _, _ => by simp [avInB] at h
  | .gd _ _, h, _, _ => by simp [avInB] at h
  | .dead, _, i, hi => by simp [AV.hasB] at hi
theorem avInL_spec {l : List (Nat × Nat)} : ∀ {x : List AV}, avInL l x = true → ∀ i, avsHas i x = true → inOld l i = true
  | [], _, i, hi => by simp [avsHas] at hi
  | x :: r, h, i, hi => by
    simp only [avInL, Bool.and_eq_true] at h
    simp only [avsHas, Bool.or_eq_true] at hi
    rcases hi with hi | hi
    · exact avInB_spec h.1 i hi
    · exact avInL_spec h.2 i hi
theorem avIn_spec {l : List (Nat × Nat)} : ∀ {x : AV}, avIn l x = true → ∀ i, x.has i = true → inOld l i = true
  | .tup x, h, i, hi => avInL_spec h i hi
  | .c x, h, i, hi => avInB_spec (x := .c x) h i hi
  | .agg x, h, i, hi => avInB_spec (x := .agg x) h i hi
  | .gd _ _, h, _, _ => by simp [avIn, avInB] at h
  | .dead, _, i, hi => by simp [AV.has, AV.hasB] at hi
theorem hpIn_spec {l : List (Nat × Nat)} : ∀ {hp : List (Nat × Ct)}, hpIn l hp = true → ∀ p ∈ hp, inOld l p.1 = true ∧ ∀ i, p.2.has i = true → inOld l i = true
  | [], _, p, hp => by cases hp
  | (i, .rows ..) :: r, h, p, hp => by
    simp only [hpIn, Bool.and_eq_true] at h
    rcases List.mem_cons.1 hp with rfl | hp1
    · exact ⟨h.1, fun k hk => by simp [Ct.has] at hk⟩
    · exact hpIn_spec h.2 p hp1
  | (i, .box _ cs) :: r, h, p, hp => by
    simp only [hpIn, Bool.and_eq_true] at h
    rcases List.mem_cons.1 hp with rfl | hp1
    · exact ⟨h.1.1, fun k hk => csIn_spec h.1.2 k hk⟩
    · exact hpIn_spec h.2 p hp1

/-- The operands' values fit the contract's arguments, renamed. -/
theorem args_rel {τ S w} {ρ : Nat → Nat} {ρA : Operand → AV} {ρv : Operand → Value} : ∀ {l : List Operand} {args : List AV}, l.map ρA = args.map (renA ρ) → (∀ x ∈ l, RelA τ S w (ρA x) (ρv x)) → RelAs (fun i => τ (ρ i)) S w args (l.map ρv)
  | [], [], _, _ => trivial
  | [], _ :: _, h, _ => by simp at h
  | _ :: _, [], h, _ => by simp at h
  | x :: l, a :: args, h, hr => by
    simp only [List.map_cons, List.cons.injEq] at h
    refine ⟨?_, args_rel h.2 fun y hy => hr y (List.mem_cons_of_mem _ hy)⟩
    have := hr x (by simp)
    rw [h.1] at this
    -- back through the renaming
    have back : ∀ (c : C) (y : Value), RelC τ S w (renC ρ c) y → RelC (fun i => τ (ρ i)) S w c y := by
      intro c y hc
      cases c <;> exact hc
    have backs : ∀ (cs : List C) (us : List Value), RelCs τ S w (cs.map (renC ρ)) us → RelCs (fun i => τ (ρ i)) S w cs us := by
      intro cs
      induction cs with
      | nil => intro us h; cases us <;> exact h
      | cons c cs ih =>
        intro us h
        cases us with
        | nil => exact h.elim
        | cons u us => exact ⟨⟨h.1.1, back _ _ h.1.2⟩, ih us h.2⟩
    have backB : ∀ (v : AV) (y : Value), RelB τ S w (renB ρ v) y → RelB (fun i => τ (ρ i)) S w v y := by
      intro v y hv
      cases v with
      | c x => exact back x y hv
      | agg l => obtain ⟨us, h1, h2⟩ := hv; exact ⟨us, h1, backs _ _ h2⟩
      | _ => exact hv.elim
    have backT : ∀ (vs : List AV) (us : List Value), RelT τ S w (vs.map (renB ρ)) us → RelT (fun i => τ (ρ i)) S w vs us := by
      intro vs
      induction vs with
      | nil => intro us h; cases us <;> exact h
      | cons v vs ih =>
        intro us h
        cases us with
        | nil => exact h.elim
        | cons u us => exact ⟨backB _ _ h.1, ih us h.2⟩
    cases a with
    | c x => exact back x _ this
    | agg l => obtain ⟨us, h1, h2⟩ := this; exact ⟨us, h1, backs _ _ h2⟩
    | tup l =>
      obtain ⟨us, h1, h2⟩ := this
      exact ⟨us, h1, backT _ _ h2⟩
    | gd g x => exact ⟨fun hg => backB _ _ (this.1 hg), this.2⟩
    | dead => trivial

/-- The contract's named blocks are among the caller's, renamed. -/
def lkAll (st : List (Nat × Ct)) (ρ : Nat → Nat) : List (Nat × Ct) → Prop
  | [] => True
  | (i, c) :: r => lkH st (ρ i) = some (renCt ρ c) ∧ lkAll st ρ r
theorem lkAll_mem {st : List (Nat × Ct)} {ρ : Nat → Nat} : ∀ {hp : List (Nat × Ct)}, lkAll st ρ hp → ∀ p ∈ hp, (ρ p.1, renCt ρ p.2) ∈ st
  | [], _, p, hp => by cases hp
  | (i, c) :: r, h, p, hp => by
    rcases List.mem_cons.1 hp with rfl | hp1
    · exact lkH_mem h.1
    · exact lkAll_mem h.2 p hp1
theorem RelCt.unren {τ S w} {ρ : Nat → Nat} {v : Value} {c : Ct} (h : RelCt τ S w v (renCt ρ c)) : RelCt (fun i => τ (ρ i)) S w v c := by
  cases c with
  | rows => exact h
  | box e l =>
    obtain ⟨b, us, h1, h2, h3⟩ := h
    refine ⟨b, us, h1, h2, ?_⟩
    clear h1 h2
    induction l generalizing us with
    | nil => cases us <;> exact h3
    | cons c cs ih =>
      cases us with
      | nil => exact h3.elim
      | cons u us =>
        refine ⟨⟨h3.1.1, ?_⟩, ih us h3.2⟩
        cases c <;> exact h3.1.2

/-- What the caller has behind a call that keeps a contract. -/
theorem Cfg.called {E τ S st a w} (h : Cfg E τ S st a w) {hp0 hp' : List (Nat × Ct)} {res : AV} {old new : List (Nat × Nat)} {τ' : Nat → Value} {S' : Nat → Prop} {w' : World} {y : Value}
    (hlk : lkAll st.hp (asc old) hp0) (hinj : nodupB (hp0.map fun p => asc old p.1) = true) (hf : freshAll st new = true)
    (hold : (hp0.all fun p => decide (p.1 < newId)) = true)
    (hres : avIn (new ++ (hp0.map fun p => (p.1, asc old p.1))) res = true) (hhp : hpIn (new ++ (hp0.map fun p => (p.1, asc old p.1))) hp' = true)
    (hout : Out (fun i => τ (asc old i)) S w hp0 τ' S' w' res y hp') :
    ∃ τ'' S'', RelA τ'' S'' w' (renA (asc (new ++ (hp0.map fun p => (p.1, asc old p.1)))) res) y ∧
      Cfg E τ'' S'' ⟨st.fr, renHp (asc (new ++ (hp0.map fun p => (p.1, asc old p.1)))) hp' ++ delAll st.hp (hp0.map fun p => asc old p.1)⟩ a w' := by
  have hmem := lkAll_mem hlk
  -- the values at the new names
  let τ'' := vals2 new τ τ'
  have hfs := freshAll_spec hf
  have hkey : ∀ i, inOld (new ++ (hp0.map fun p => (p.1, asc old p.1))) i = true → τ'' (asc (new ++ (hp0.map fun p => (p.1, asc old p.1))) i) = τ' i := by
    intro i hi
    have gen : ∀ (n : List (Nat × Nat)), (∀ p ∈ n, p ∈ new) → inOld (n ++ (hp0.map fun p => (p.1, asc old p.1))) i = true → τ'' (asc (n ++ (hp0.map fun p => (p.1, asc old p.1))) i) = τ' i := by
      intro n
      induction n with
      | nil =>
        intro _ hi
        simp only [List.nil_append] at hi ⊢
        have : ∀ (m : List (Nat × Ct)), (∀ p ∈ m, p ∈ hp0) → inOld (m.map fun p => (p.1, asc old p.1)) i = true → τ'' (asc (m.map fun p => (p.1, asc old p.1)) i) = τ' i := by
          intro m
          induction m with
          | nil => intro _ h; simp [inOld] at h
          | cons q m ih =>
            intro hm h
            simp only [List.map_cons, asc]
            by_cases e : q.1 = i
            · rw [if_pos e]
              subst e
              have hq := hm q (by simp)
              have hlt : q.1 < newId := by have := List.all_eq_true.1 hold q hq; simpa using this
              have hin := hmem q hq
              show vals2 new τ τ' (asc old q.1) = τ' q.1
              rw [vals2_old (fun p hp e => (hpFresh_spec (hfs p hp).2.2 _ hin).1 e.symm), hout.base _ hlt]
            · rw [if_neg e]
              refine ih (fun p hp => hm p (List.mem_cons_of_mem _ hp)) ?_
              simpa [inOld, e] using h
        exact this hp0 (fun _ h => h) hi
      | cons q n ih =>
        intro hn hi
        simp only [List.cons_append, asc]
        by_cases e : q.1 = i
        · rw [if_pos e]
          subst e
          exact vals2_new hf q (hn q (by simp))
        · rw [if_neg e]
          refine ih (fun p hp => hn p (List.mem_cons_of_mem _ hp)) ?_
          simpa [inOld, e] using hi
    exact gen new (fun _ h => h) hi
  generalize hρ : asc (new ++ (hp0.map fun p => (p.1, asc old p.1))) = ρ at *
  have hOB : ∀ b, OB (fun i => τ (asc old i)) hp0 b → ∃ p ∈ st.hp, p.1 ∈ (hp0.map fun p => asc old p.1) ∧ (τ p.1).ownBlock = some b := by
    rintro b ⟨p, hp, hb⟩
    exact ⟨_, hmem p hp, List.mem_map.2 ⟨p, hp, rfl⟩, hb⟩
  have hOBS : ∀ b, OB (fun i => τ (asc old i)) hp0 b → ¬ S b := by
    intro b hb hs
    obtain ⟨p, hp, _, hpb⟩ := hOB b hb
    exact h.hp.ss b hs p hp hpb
  have hOBown : ∀ b, OB (fun i => τ (asc old i)) hp0 b → E.O b ∨ E.w0.heap.size ≤ b := by
    intro b hb
    obtain ⟨p, hp, _, hpb⟩ := hOB b hb
    exact h.own p hp b hpb
  have hOBlt : ∀ b, OB (fun i => τ (asc old i)) hp0 b → b < w.heap.size := by
    intro b hb
    obtain ⟨p, hp, _, hpb⟩ := hOB b hb
    exact (h.hp.ct p hp).lt b hpb
  have hst : Stays τ τ'' S (fun b => S b ∨ S' b) w w' := ⟨fun b hb => .inl hb, fun b hb => hout.keep.block b (h.hp.s b hb) (fun ho => hOBS b ho hb)⟩
  have hst2 : Stays τ' τ' S' (fun b => S b ∨ S' b) w' w' := ⟨fun b hb => .inr hb, fun _ _ => rfl⟩
  have hτfr : ∀ p ∈ st.fr, ∀ id, p.2.has id = true → τ'' id = τ id := fun p hp id hid => vals2_old fun q hq e => by
    have := frFresh_spec (hfs q hq).2.1 p hp
    rw [e, hid] at this
    cases this
  have hτhp : ∀ p ∈ st.hp, τ'' p.1 = τ p.1 ∧ ∀ id, p.2.has id = true → τ'' id = τ id := fun p hp => ⟨vals2_old fun q hq e => (hpFresh_spec (hfs q hq).2.2 p hp).1 e.symm, fun id hid => vals2_old fun q hq e => by
    have := (hpFresh_spec (hfs q hq).2.2 p hp).2
    rw [e, hid] at this
    cases this⟩
  have hkeyhp : ∀ p ∈ hp', τ'' (ρ p.1) = τ' p.1 := fun p hp => hkey _ (hpIn_spec hhp p hp).1
  have hrestOB : ∀ p ∈ delAll st.hp (hp0.map fun p => asc old p.1), ∀ b, (τ p.1).ownBlock = some b → ¬ OB (fun i => τ (asc old i)) hp0 b := by
    intro p hp b hb ho
    obtain ⟨hp1, hp2⟩ := mem_delAll.1 hp
    obtain ⟨q, hq, hq2, hqb⟩ := hOB b ho
    exact h.hp.apart hp1 hq (fun e => hp2 (e ▸ hq2)) b hb hqb
  have hpc : ∀ p ∈ renHp ρ hp' ++ delAll st.hp (hp0.map fun p => asc old p.1), RelCt τ'' (fun b => S b ∨ S' b) w' (τ'' p.1) p.2 := by
    intro p hp
    rcases List.mem_append.1 hp with hp | hp
    · obtain ⟨q, hq, rfl⟩ := List.mem_map.1 hp
      simp only [hkeyhp q hq]
      exact ((hout.hp.ct q hq).mono hst2 (fun _ _ => rfl) (fun _ _ => rfl)).ren fun i hi => hkey i ((hpIn_spec hhp q hq).2 i hi)
    · have hp0' := (mem_delAll.1 hp).1
      rw [(hτhp p hp0').1]
      exact (h.hp.ct p hp0').mono hst (hτhp p hp0').2 fun b hb => hout.keep.block b ((h.hp.ct p hp0').lt b hb) (hrestOB p hp b hb)
  refine ⟨τ'', fun b => S b ∨ S' b, (hout.res.mono hst2 fun _ _ => rfl).ren fun i hi => hkey i (avIn_spec hres i hi), h.df, h.sz, ?_, ⟨hpc, ?_, ?_, ?_⟩, ?_, ?_, ?_, ?_⟩
  · intro p hp
    obtain ⟨v, h1, h2⟩ := h.fr p hp
    exact ⟨v, h1, h2.mono hst (hτfr p hp)⟩
  · rw [List.pairwise_append]
    refine ⟨?_, ?_, ?_⟩
    · unfold renHp
      rw [List.pairwise_map]
      refine List.Pairwise.imp_of_mem ?_ hout.hp.sep
      intro p q hp hq ⟨h1, h2⟩
      simp only [hkeyhp p hp, hkeyhp q hq]
      refine ⟨fun e => ?_, h2⟩
      -- two of the callee's names under one of the caller's: then the names are one
      have : ∀ i j, inOld (new ++ (hp0.map fun p => (p.1, asc old p.1))) i = true → inOld (new ++ (hp0.map fun p => (p.1, asc old p.1))) j = true → ρ i = ρ j → i = j := by
        subst hρ
        intro i j hi hj hij
        have find : ∀ (l : List (Nat × Nat)) (i : Nat), inOld l i = true → (i, asc l i) ∈ l := by
          intro l
          induction l with
          | nil => intro i h; simp [inOld] at h
          | cons q l ih =>
            intro i h
            simp only [asc]
            by_cases e : q.1 = i
            · rw [if_pos e]; subst e; simp
            · rw [if_neg e]
              exact List.mem_cons_of_mem _ (ih i (by simpa [inOld, e] using h))
        have h1 := find _ i hi
        have h2 := find _ j hj
        rw [← hij] at h2
        have inj : ∀ (n : List (Nat × Nat)), freshAll st n = true → ∀ x y k, (x, k) ∈ n → (y, k) ∈ n → x = y := by
          intro n
          induction n with
          | nil => intro _ x y k hx; cases hx
          | cons q n ih =>
            intro hn x y k hx hy
            simp only [freshAll, Bool.and_eq_true, Bool.not_eq_true'] at hn
            have hq : ∀ z, (z, q.2) ∉ n := fun z hz => by
              have := hn.1.2
              rw [List.any_eq_false] at this
              exact this _ hz (by simp)
            rcases List.mem_cons.1 hx with hx | hx <;> rcases List.mem_cons.1 hy with hy | hy
            · rw [← hx] at hy; simpa using hy.symm
            · rw [← hx] at hq; exact absurd hy (hq y)
            · rw [← hy] at hq; exact absurd hx (hq x)
            · exact ih hn.2 x y k hx hy
        have injo : ∀ (m : List (Nat × Ct)), nodupB (m.map fun p => asc old p.1) = true → ∀ x y k, (x, k) ∈ (m.map fun p => (p.1, asc old p.1)) → (y, k) ∈ (m.map fun p => (p.1, asc old p.1)) → x = y := by
          intro m
          induction m with
          | nil => intro _ x y k hx; cases hx
          | cons q m ih =>
            intro hn x y k hx hy
            simp only [List.map_cons, nodupB, Bool.and_eq_true, Bool.not_eq_true'] at hn
            have hq : ∀ z, (z, asc old q.1) ∉ (m.map fun p => (p.1, asc old p.1)) := fun z hz => by
              obtain ⟨p, hp, he⟩ := List.mem_map.1 hz
              simp only [Prod.mk.injEq] at he
              have := hn.1
              simp only [List.contains_eq_mem, decide_eq_false_iff_not] at this
              exact this (List.mem_map.2 ⟨p, hp, he.2⟩)
            simp only [List.map_cons] at hx hy
            rcases List.mem_cons.1 hx with hx | hx <;> rcases List.mem_cons.1 hy with hy | hy
            · simp only [Prod.mk.injEq] at hx hy; exact hx.1.trans hy.1.symm
            · simp only [Prod.mk.injEq] at hx; rw [hx.2] at hy; exact absurd hy (hq y)
            · simp only [Prod.mk.injEq] at hy; rw [hy.2] at hx; exact absurd hx (hq x)
            · exact ih hn.2 x y k hx hy
        have cross : ∀ x y k, (x, k) ∈ new → (y, k) ∈ (hp0.map fun p => (p.1, asc old p.1)) → False := by
          intro x y k hx hy
          obtain ⟨p, hp, he⟩ := List.mem_map.1 hy
          simp only [Prod.mk.injEq] at he
          have := hmem p hp
          exact (hpFresh_spec (hfs _ hx).2.2 _ this).1 he.2
        rcases List.mem_append.1 h1 with h1 | h1 <;> rcases List.mem_append.1 h2 with h2 | h2
        · exact inj new hf _ _ _ h1 h2
        · exact (cross _ _ _ h1 h2).elim
        · exact (cross _ _ _ h2 h1).elim
        · exact injo hp0 hinj _ _ _ h1 h2
      exact h1 (this _ _ (hpIn_spec hhp p hp).1 (hpIn_spec hhp q hq).1 e)
    · refine List.Pairwise.imp_of_mem ?_ (delAll_pairwise h.hp.sep)
      intro p q hp hq hpq
      rw [(hτhp p (mem_delAll.1 hp).1).1, (hτhp q (mem_delAll.1 hq).1).1]
      exact hpq
    · intro p hp q hq
      obtain ⟨p', hp', rfl⟩ := List.mem_map.1 hp
      have hq0 := (mem_delAll.1 hq).1
      simp only [hkeyhp p' hp', (hτhp q hq0).1]
      refine ⟨fun e => ?_, fun b hb hb' => ?_⟩
      · -- the names differ
        have hin := (hpIn_spec hhp p' hp').1
        have find : ∀ (l : List (Nat × Nat)) (i : Nat), inOld l i = true → (i, asc l i) ∈ l := by
          intro l
          induction l with
          | nil => intro i h; simp [inOld] at h
          | cons q l ih =>
            intro i h
            simp only [asc]
            by_cases e : q.1 = i
            · rw [if_pos e]; subst e; simp
            · rw [if_neg e]
              exact List.mem_cons_of_mem _ (ih i (by simpa [inOld, e] using h))
        have hf' := find _ _ hin
        rw [hρ, e] at hf'
        rcases List.mem_append.1 hf' with h1 | h1
        · exact (hpFresh_spec (hfs _ h1).2.2 _ hq0).1 rfl
        · obtain ⟨z, hz, he⟩ := List.mem_map.1 h1
          simp only [Prod.mk.injEq] at he
          exact (mem_delAll.1 hq).2 (List.mem_map.2 ⟨z, hz, he.2⟩)
      · rcases hout.own p' hp' b hb with ho | ho
        · exact hrestOB q hq b hb' ho
        · have := (h.hp.ct q hq0).lt b hb'
          omega
  · rintro b (hb | hb)
    · exact Nat.lt_of_lt_of_le (h.hp.s b hb) hout.keep.size
    · exact hout.hp.s b hb
  · rintro b hb p hp hpb
    rcases List.mem_append.1 hp with hp | hp
    · obtain ⟨q, hq, rfl⟩ := List.mem_map.1 hp
      simp only [hkeyhp q hq] at hpb
      rcases hb with hb | hb
      · rcases hout.own q hq b hpb with ho | ho
        · exact hOBS b ho hb
        · have := h.hp.s b hb; omega
      · exact hout.hp.ss b hb q hq hpb
    · have hp0' := (mem_delAll.1 hp).1
      rw [(hτhp p hp0').1] at hpb
      rcases hb with hb | hb
      · exact h.hp.ss b hb p hp0' hpb
      · rcases hout.so b hb with h1 | h1 | h1
        · exact h.hp.ss b h1 p hp0' hpb
        · exact hrestOB p hp b hpb h1
        · have := (h.hp.ct p hp0').lt b hpb; omega
  · intro p hp b hpb
    rcases List.mem_append.1 hp with hp | hp
    · obtain ⟨q, hq, rfl⟩ := List.mem_map.1 hp
      simp only [hkeyhp q hq] at hpb
      rcases hout.own q hq b hpb with ho | ho
      · exact hOBown b ho
      · exact .inr (Nat.le_trans h.keep.size ho)
    · have hp0' := (mem_delAll.1 hp).1
      rw [(hτhp p hp0').1] at hpb
      exact h.own p hp0' b hpb
  · rintro b (hb | hb)
    · exact h.so b hb
    · rcases hout.so b hb with h1 | h1 | h1
      · exact h.so b h1
      · exact .inr (hOBown b h1)
      · exact .inr (.inr (Nat.le_trans h.keep.size h1))
  · refine ⟨hout.keep.os.trans h.keep.os, hout.keep.tape.trans h.keep.tape, hout.keep.output.trans h.keep.output, Nat.le_trans h.keep.size hout.keep.size, fun b hb hO => ?_⟩
    rw [hout.keep.block b (Nat.lt_of_lt_of_le hb h.keep.size) (fun ho => (hOBown b ho).elim hO (fun h => by omega))]
    exact h.keep.block b hb hO
  · intro id hid
    rw [← h.base id hid]
    exact vals2_old fun p hp e => by have := (hfs p hp).1; omega

/-- A call, by its contract. -/
theorem WO.call {P : Program} {N : Nat} {ops : Array Oper} {i : Nat} {l : List Nat} {st : ASt} {Q : Exit → ASt → Prop} {o : Oper} {c : Call} {f : FuncId} {args : List AV} {hp0 hp' : List (Nat × Ct)} {res : AV}
    (old new : List (Nat × Nat)) (ho : ops[i]? = some o) (hop : o.op = .call c) (hcal : c.callee = .value (.func f)) (hg : o.guard = none) (hcb : callable P f = true) (spec : Spec P f args hp0 res hp')
    (hargs : c.args.toList.map (opA st.fr) = args.map (renA (asc old))) (hlk : lkAll st.hp (asc old) hp0)
    (hchk : (nodupB (hp0.map fun p => asc old p.1) && (freshAll st new && ((hp0.all fun p => decide (p.1 < newId)) &&
      (avIn (new ++ (hp0.map fun p => (p.1, asc old p.1))) res && (hpIn (new ++ (hp0.map fun p => (p.1, asc old p.1))) hp' && dstOk N o.dst))))) = true)
    (k : WO P N ops l ⟨putF st.fr o.dst (renA (asc (new ++ (hp0.map fun p => (p.1, asc old p.1)))) res), renHp (asc (new ++ (hp0.map fun p => (p.1, asc old p.1)))) hp' ++ delAll st.hp (hp0.map fun p => asc old p.1)⟩ Q) :
    WO P N ops (i :: l) st Q := by
  simp only [Bool.and_eq_true] at hchk
  obtain ⟨c1, c2, c3, c5, c6, c7⟩ := hchk
  intro E τ S a w hE h
  have hw : Region.wanted o (yielded ops a.tmps) = true := by simp [Region.wanted, hg]
  have hrun : (execOp a.eval o).run P w = .ok (.enter f (c.args.toList.map a.eval).toArray) w := by
    have e : c.args.map a.eval = (c.args.toList.map a.eval).toArray := by apply Array.ext'; simp
    simp [execOp, hop, resolve, hcal, Act.eval, Deferred.ofValue, invoke, callFunc_run hcb, e]
  simp only [wpOps, ho, hw, if_true]
  refine .inl ?_
  simp only [Oper.wp, hrun, Oper.upon]
  have hH : HP (fun i => τ (asc old i)) S w hp0 := by
    have hmem := lkAll_mem hlk
    refine ⟨fun p hp => (h.hp.ct _ (hmem p hp)).unren, ?_, h.hp.s, fun b hb p hp => h.hp.ss b hb _ (hmem p hp)⟩
    have hnd := nodupB_spec c1
    have hpw : hp0.Pairwise fun p q => asc old p.1 ≠ asc old q.1 := List.pairwise_map.1 hnd
    exact List.Pairwise.imp_of_mem (fun {p q} hp hq hne => ⟨fun e => hne (by rw [e]), fun b hb => h.hp.apart (hmem p hp) (hmem q hq) hne b hb⟩) hpw
  refine (spec w (c.args.toList.map a.eval) (fun i => τ (asc old i)) S (args_rel hargs fun x _ => h.opA x) hH).mono ?_
  rintro e w' ⟨y, τ', S', rfl, hout⟩
  obtain ⟨τ'', S'', hr, hc⟩ := h.called hlk c1 c2 c3 c5 c6 hout
  exact k E τ'' S'' _ w' hE (hc.put (hE ▸ dst_lt c7) hr)

end Go.Abs
