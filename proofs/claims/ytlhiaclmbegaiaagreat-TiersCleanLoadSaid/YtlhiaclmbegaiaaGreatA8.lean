/- DERIVED. Own theory, part 8: contracts, calls, names renamed, named rows made read-only. -/
import Derived.Test.YtlhiaclmbegaiaaGreatA7
set_option linter.unusedVariables false
set_option linter.unusedSimpArgs false
namespace Go.Abs

/-! ### Renaming -/
def renC (ρ : Nat → Nat) : C → C
  | .d x => .d x
  | .nm i => .nm (ρ i)
  | .np i sz a b => .np (ρ i) sz a b
  | .ns i sz a b => .ns (ρ i) sz a b
def renB (ρ : Nat → Nat) : AV → AV
  | .c x => .c (renC ρ x)
  | .agg l => .agg (l.map (renC ρ))
  | x => x
def renA (ρ : Nat → Nat) : AV → AV
  | .c x => .c (renC ρ x)
  | .agg l => .agg (l.map (renC ρ))
  | .tup l => .tup (l.map (renB ρ))
  | .gd g x => .gd g (renB ρ x)
  | .dead => .dead
def renCt (ρ : Nat → Nat) : Ct → Ct
  | .rows e sz n g => .rows e sz n g
  | .box e l => .box e (l.map (renC ρ))
def renFr (ρ : Nat → Nat) (l : List (Nat × AV)) : List (Nat × AV) := l.map fun p => (p.1, renA ρ p.2)
def renHp (ρ : Nat → Nat) (l : List (Nat × Ct)) : List (Nat × Ct) := l.map fun p => (ρ p.1, renCt ρ p.2)

section
variable {τ τ' : Nat → Value} {S : Nat → Prop} {w : World} {ρ : Nat → Nat}
theorem RelC.ren {x : C} {y : Value} (h : ∀ i, x.has i = true → τ' (ρ i) = τ i) (hr : RelC τ S w x y) : RelC τ' S w (renC ρ x) y := by
  cases x with
  | d x => exact hr
  | nm i => exact (show y = τ i from hr).trans (h i (by simp [C.has])).symm
  | np i sz a b =>
    obtain ⟨k, hk, hy⟩ := hr
    exact ⟨k, by rw [h i (by simp [C.has])]; exact hk, hy⟩
  | ns i sz a b =>
    show RelNs (τ' (ρ i)) sz a b y
    rw [h i (by simp [C.has])]
    exact hr
theorem RelCs.ren : ∀ {l : List C} {us : List Value}, (∀ i, csHas i l = true → τ' (ρ i) = τ i) → RelCs τ S w l us → RelCs τ' S w (l.map (renC ρ)) us
  | [], [], _, _ => trivial
  | [], _ :: _, _, h => h.elim
  | _ :: _, [], _, h => h.elim
  | c :: cs, u :: us, hn, ⟨⟨h1, h2⟩, h3⟩ => ⟨⟨h1, h2.ren fun i hi => hn i (by simp [csHas, hi])⟩, RelCs.ren (fun i hi => hn i (by simp [csHas, hi])) h3⟩
theorem RelB.ren : ∀ {x : AV} {y : Value}, (∀ i, x.hasB i = true → τ' (ρ i) = τ i) → RelB τ S w x y → RelB τ' S w (renB ρ x) y
  | .c _, _, hn, h => RelC.ren hn h
  | .agg _, _, hn, ⟨us, h1, h2⟩ => ⟨us, h1, h2.ren hn⟩
  | .tup _, _, _, h => h.elim
  | .gd _ _, _, _, h => h.elim
  | .dead, _, _, h => h.elim
theorem RelT.ren : ∀ {l : List AV} {us : List Value}, (∀ i, avsHas i l = true → τ' (ρ i) = τ i) → RelT τ S w l us → RelT τ' S w (l.map (renB ρ)) us
  | [], [], _, _ => trivial
  | [], _ :: _, _, h => h.elim
  | _ :: _, [], _, h => h.elim
  | c :: cs, u :: us, hn, ⟨h1, h3⟩ => ⟨h1.ren fun i hi => hn i (by simp [avsHas, hi]), RelT.ren (fun i hi => hn i (by simp [avsHas, hi])) h3⟩
theorem RelA.ren : ∀ {x : AV} {y : Value}, (∀ i, x.has i = true → τ' (ρ i) = τ i) → RelA τ S w x y → RelA τ' S w (renA ρ x) y
  | .c _, _, hn, h => RelC.ren hn h
  | .agg _, _, hn, ⟨us, h1, h2⟩ => ⟨us, h1, h2.ren hn⟩
  | .tup _, _, hn, ⟨us, h1, h2⟩ => ⟨us, h1, h2.ren hn⟩
  | .gd _ _, _, hn, ⟨h1, h2⟩ => ⟨fun hg => (h1 hg).ren hn, h2⟩
  | .dead, _, _, _ => trivial
theorem RelCt.ren {v : Value} {c : Ct} (h : ∀ i, c.has i = true → τ' (ρ i) = τ i) (hr : RelCt τ S w v c) : RelCt τ' S w v (renCt ρ c) := by
  cases c with
  | rows e sz n g => exact hr
  | box e l =>
    obtain ⟨b, us, h1, h2, h3⟩ := hr
    exact ⟨b, us, h1, h2, h3.ren h⟩
end

def ren1 (a b : Nat) : Nat → Nat := fun i => if i = a then b else i
theorem Cfg.rename {E τ S st a w} (h : Cfg E τ S st a w) {x y : Nat} (hy : newId ≤ y) (hf : frFresh y st.fr = true) (hf' : hpFresh y st.hp = true) :
    Cfg E (upd τ y (τ x)) S ⟨renFr (ren1 x y) st.fr, renHp (ren1 x y) st.hp⟩ a w := by
  have key : ∀ i, i ≠ y → upd τ y (τ x) (ren1 x y i) = τ i := by
    intro i hi
    unfold ren1
    split
    · rename_i e; subst e; exact upd_same _ _ _
    · exact upd_ne hi
  have kfr : ∀ p ∈ st.fr, ∀ i, p.2.has i = true → upd τ y (τ x) (ren1 x y i) = τ i := fun p hp i hi => key i fun e => by subst e; rw [frFresh_spec hf p hp] at hi; cases hi
  have khp : ∀ p ∈ st.hp, upd τ y (τ x) (ren1 x y p.1) = τ p.1 := fun p hp => key _ (hpFresh_spec hf' p hp).1
  have khp2 : ∀ p ∈ st.hp, ∀ i, p.2.has i = true → upd τ y (τ x) (ren1 x y i) = τ i := fun p hp i hi => key i fun e => by subst e; rw [(hpFresh_spec hf' p hp).2] at hi; cases hi
  refine ⟨h.df, h.sz, ?_, ⟨?_, ?_, h.hp.s, ?_⟩, ?_, h.so, h.keep, fun i hi => (upd_ne (by omega)).trans (h.base i hi)⟩
  · intro p hp
    obtain ⟨q, hq, rfl⟩ := List.mem_map.1 hp
    obtain ⟨v, hv, hr⟩ := h.fr q hq
    exact ⟨v, hv, hr.ren (kfr q hq)⟩
  · intro p hp
    obtain ⟨q, hq, rfl⟩ := List.mem_map.1 hp
    simp only [khp q hq]
    exact (h.hp.ct q hq).ren (khp2 q hq)
  · unfold renHp
    rw [List.pairwise_map]
    refine List.Pairwise.imp_of_mem ?_ h.hp.sep
    intro p q hp hq ⟨h1, h2⟩
    simp only [khp p hp, khp q hq]
    refine ⟨fun e => ?_, h2⟩
    unfold ren1 at e
    split at e <;> split at e
    · rename_i e1 e2; exact h1 (e1.trans e2.symm)
    · exact (hpFresh_spec hf' q hq).1 e.symm
    · exact (hpFresh_spec hf' p hp).1 e
    · exact h1 e
  · intro b hb p hp
    obtain ⟨q, hq, rfl⟩ := List.mem_map.1 hp
    simp only [khp q hq]
    exact h.hp.ss b hb q hq
  · intro p hp
    obtain ⟨q, hq, rfl⟩ := List.mem_map.1 hp
    simp only [khp q hq]
    exact h.own q hq
theorem WO.rename {P N ops l st Q} (x y : Nat) (hc : (decide (newId ≤ y) && (frFresh y st.fr && hpFresh y st.hp)) = true) (k : WO P N ops l ⟨renFr (ren1 x y) st.fr, renHp (ren1 x y) st.hp⟩ Q) : WO P N ops l st Q := by
  simp only [Bool.and_eq_true, decide_eq_true_eq] at hc
  exact fun E τ S a w hE h => k E _ S a w hE (h.rename hc.1 hc.2.1 hc.2.2)
theorem WPA.rename {P N c st Q} (x y : Nat) (hc : (decide (newId ≤ y) && (frFresh y st.fr && hpFresh y st.hp)) = true) (k : WPA P N c ⟨renFr (ren1 x y) st.fr, renHp (ren1 x y) st.hp⟩ Q) : WPA P N c st Q := by
  simp only [Bool.and_eq_true, decide_eq_true_eq] at hc
  exact fun E τ S a w hE h => k E _ S a w hE (h.rename hc.1 hc.2.1 hc.2.2)

/-! ### Named rows become read-only -/
def frzC (id : Nat) (d : DV) : C → C
  | .nm i => if i = id then .d d else .nm i
  | x => x
def frzB (id : Nat) (d : DV) : AV → AV
  | .c x => .c (frzC id d x)
  | .agg l => .agg (l.map (frzC id d))
  | x => x
def frzA (id : Nat) (d : DV) : AV → AV
  | .c x => .c (frzC id d x)
  | .agg l => .agg (l.map (frzC id d))
  | .tup l => .tup (l.map (frzB id d))
  | .gd g x => .gd g (frzB id d x)
  | .dead => .dead
def frzCt (id : Nat) (d : DV) : Ct → Ct
  | .rows e sz n g => .rows e sz n g
  | .box e l => .box e (l.map (frzC id d))
def frzSt (id : Nat) (d : DV) (st : ASt) : ASt := ⟨st.fr.map fun p => (p.1, frzA id d p.2), (del st.hp id).map fun p => (p.1, frzCt id d p.2)⟩

section
variable {τ : Nat → Value} {S : Nat → Prop} {w : World} {id : Nat} {d : DV}
theorem RelC.frz {x : C} {y : Value} (hd : RelD S w d (τ id)) (hr : RelC τ S w x y) : RelC τ S w (frzC id d x) y := by
  cases x with
  | d x => exact hr
  | nm i =>
    show RelC τ S w (if i = id then .d d else .nm i) y
    split
    · rename_i e; subst e; rw [show y = τ i from hr]; exact hd
    · exact hr
  | np i sz a b => exact hr
  | ns i sz a b => exact hr
theorem RelCs.frz (hd : RelD S w d (τ id)) : ∀ {l : List C} {us : List Value}, RelCs τ S w l us → RelCs τ S w (l.map (frzC id d)) us
  | [], [], _ => trivial
  | [], _ :: _, h => h.elim
  | _ :: _, [], h => h.elim
  | _ :: _, _ :: _, ⟨⟨h1, h2⟩, h3⟩ => ⟨⟨h1, h2.frz hd⟩, h3.frz hd⟩
theorem RelB.frz (hd : RelD S w d (τ id)) : ∀ {x : AV} {y : Value}, RelB τ S w x y → RelB τ S w (frzB id d x) y
  | .c _, _, h => RelC.frz hd h
  | .agg _, _, ⟨us, h1, h2⟩ => ⟨us, h1, h2.frz hd⟩
  | .tup _, _, h => h.elim
  | .gd _ _, _, h => h.elim
  | .dead, _, h => h.elim
theorem RelT.frz (hd : RelD S w d (τ id)) : ∀ {l : List AV} {us : List Value}, RelT τ S w l us → RelT τ S w (l.map (frzB id d)) us
  | [], [], _ => trivial
  | [], _ :: _, h => h.elim
  | _ :: _, [], h => h.elim
  | _ :: _, _ :: _, ⟨h1, h3⟩ => ⟨h1.frz hd, h3.frz hd⟩
theorem RelA.frz (hd : RelD S w d (τ id)) : ∀ {x : AV} {y : Value}, RelA τ S w x y → RelA τ S w (frzA id d x) y
  | .c _, _, h => RelC.frz hd h
  | .agg _, _, ⟨us, h1, h2⟩ => ⟨us, h1, h2.frz hd⟩
  | .tup _, _, ⟨us, h1, h2⟩ => ⟨us, h1, h2.frz hd⟩
  | .gd _ _, _, ⟨h1, h2⟩ => ⟨fun hg => (h1 hg).frz hd, h2⟩
  | .dead, _, _ => trivial
end

theorem rows_ro {τ S w hp id ety sz n g} (h : HP τ S w hp) (hl : lkH hp id = some (.rows ety sz n g)) : RelD (fun b => S b ∨ (τ id).ownBlock = some b) w (.ro sz n g) (τ id) := by
  obtain ⟨xs, hown, hc⟩ := h.rows hl
  rcases hown.2 with ⟨hnil, hn0⟩ | ⟨b, cap, cur, fz, hb, hg, _, hcap, _⟩
  · subst hn0
    exact ⟨none, 0, hnil, Nat.le_refl _, fun h => absurd h (by omega)⟩
  · refine ⟨some ⟨b, 0, none⟩, cap, hb, hcap, fun _ => ⟨b, 0, rfl, .inr (by rw [hb]; rfl), fun i hi j hj => ?_⟩⟩
    obtain ⟨u, h1, h2, h3⟩ := hc i hi j hj
    exact ⟨u, by rw [Nat.zero_add]; exact owns_cell hown (by rw [hb]; rfl) h1, h2, RelD.mono (fun b hb => .inl hb) (fun _ _ => rfl) _ _ h3⟩

theorem Cfg.freeze {E τ S st a w} (h : Cfg E τ S st a w) {id ety sz n g} (hl : lkH st.hp id = some (.rows ety sz n g)) :
    Cfg E τ (fun b => S b ∨ (τ id).ownBlock = some b) (frzSt id (.ro sz n g) st) a w := by
  have hd := rows_ro h.hp hl
  have hm := lkH_mem hl
  have hs : Stays τ τ S (fun b => S b ∨ (τ id).ownBlock = some b) w w := ⟨fun b hb => .inl hb, fun _ _ => rfl⟩
  refine ⟨h.df, h.sz, ?_, ⟨?_, ?_, ?_, ?_⟩, ?_, ?_, h.keep, h.base⟩
  · intro p hp
    obtain ⟨q, hq, rfl⟩ := List.mem_map.1 hp
    obtain ⟨v, hv, hr⟩ := h.fr q hq
    exact ⟨v, hv, (hr.mono hs fun _ _ => rfl).frz hd⟩
  · intro p hp
    obtain ⟨q, hq, rfl⟩ := List.mem_map.1 hp
    have hq0 := (mem_del.1 hq).1
    have hr := (h.hp.ct q hq0).mono hs (fun _ _ => rfl) (fun _ _ => rfl)
    obtain ⟨qi, qc⟩ := q
    cases qc with
    | rows e sz n g => exact hr
    | box e l =>
      obtain ⟨b, us, h1, h2, h3⟩ := hr
      exact ⟨b, us, h1, h2, h3.frz hd⟩
  · unfold frzSt
    rw [List.pairwise_map]
    exact del_pairwise h.hp.sep
  · rintro b (hb | hb)
    · exact h.hp.s b hb
    · exact (h.hp.ct _ hm).lt b hb
  · rintro b (hb | hb) p hp
    · obtain ⟨q, hq, rfl⟩ := List.mem_map.1 hp
      exact h.hp.ss b hb q (mem_del.1 hq).1
    · obtain ⟨q, hq, rfl⟩ := List.mem_map.1 hp
      obtain ⟨hq0, hqne⟩ := mem_del.1 hq
      exact h.hp.apart hm hq0 (Ne.symm hqne) b hb
  · intro p hp
    obtain ⟨q, hq, rfl⟩ := List.mem_map.1 hp
    exact h.own q (mem_del.1 hq).1
  · rintro b (hb | hb)
    · exact h.so b hb
    · exact .inr (h.own _ hm b hb)
def frzOf (st : ASt) (id : Nat) : Option ASt :=
  match lkH st.hp id with
  | some (.rows _ sz n g) => some (frzSt id (.ro sz n g) st)
  | _ => none
theorem WO.freeze {P N ops l st st' Q} (id : Nat) (h : frzOf st id = some st') (k : WO P N ops l st' Q) : WO P N ops l st Q := by
  unfold frzOf at h
  split at h
  · rename_i e sz n g hl
    simp only [Option.some.injEq] at h
    subst h
    exact fun E τ S a w hE hc => k E τ _ a w hE (hc.freeze hl)
  · cases h
theorem WPA.freeze {P N c st st' Q} (id : Nat) (h : frzOf st id = some st') (k : WPA P N c st' Q) : WPA P N c st Q := by
  unfold frzOf at h
  split at h
  · rename_i e sz n g hl
    simp only [Option.some.injEq] at h
    subst h
    exact fun E τ S a w hE hc => k E τ _ a w hE (hc.freeze hl)
  · cases h

/-! ### Contracts -/
def OB (τ : Nat → Value) (hp : List (Nat × Ct)) (b : Nat) : Prop := ∃ p ∈ hp, (τ p.1).ownBlock = some b
structure Out (τ : Nat → Value) (S : Nat → Prop) (w : World) (h0 : List (Nat × Ct)) (τ' : Nat → Value) (S' : Nat → Prop) (w' : World) (res : AV) (y : Value) (hp' : List (Nat × Ct)) : Prop where
  res : RelA τ' S' w' res y
  hp : HP τ' S' w' hp'
  own : ∀ p ∈ hp', ∀ b, (τ' p.1).ownBlock = some b → OB τ h0 b ∨ w.heap.size ≤ b
  so : ∀ b, S' b → S b ∨ OB τ h0 b ∨ w.heap.size ≤ b
  keep : Keep w (OB τ h0) w'
  base : ∀ id, id < newId → τ' id = τ id

def RelAs (τ : Nat → Value) (S : Nat → Prop) (w : World) : List AV → List Value → Prop
  | [], [] => True
  | c :: cs, u :: us => RelA τ S w c u ∧ RelAs τ S w cs us
  | _, _ => False

/-- The call answers res; the named blocks that it is handed (hp) come back as hp'. -/
def Spec (P : Program) (f : FuncId) (args : List AV) (hp : List (Nat × Ct)) (res : AV) (hp' : List (Nat × Ct)) : Prop :=
  ∀ w vals τ S, RelAs τ S w args vals → HP τ S w hp → Calls P f vals.toArray w fun e w' => ∃ y τ' S', e = .returned y ∧ Out τ S w hp τ' S' w' res y hp'

def slots : Nat → List AV → List (Nat × AV)
  | _, [] => []
  | k, x :: l => (k, x) :: slots (k + 1) l

def resT (P : Program) (st : ASt) : List ResultVar → Option (List AV)
  | [] => some []
  | .tmp t :: l => match lk st.fr t with
    | .c x => (resT P st l).map (.c x :: ·)
    | .agg x => (resT P st l).map (.agg x :: ·)
    | _ => none
  | .cell a t :: l => match xLoad P st.hp t (lk st.fr a) with
    | some (none, .c x) => (resT P st l).map (.c x :: ·)
    | some (none, .agg x) => (resT P st l).map (.agg x :: ·)
    | _ => none
def resA (P : Program) (st : ASt) (l : List ResultVar) : Option AV :=
  match resT P st l with
  | some [x] => some x
  | some l => some (.tup l)
  | none => none
/-- What a function's end asks. -/
def retQ (P : Program) (fn : Func) (ids : List Nat) (res : AV) (hp' : List (Nat × Ct)) : Exit → ASt → Prop :=
  fun e st => (e = .ret ∨ e = .normal) ∧ resA P st fn.results.toList = some res ∧ pickHp st.hp ids = some hp' ∧ nodupB ids = true
theorem retQ.ret {P fn ids res hp' st} (h : resA P st fn.results.toList = some res) (h2 : pickHp st.hp ids = some hp') (h3 : nodupB ids = true) : retQ P fn ids res hp' .ret st := ⟨.inl rfl, h, h2, h3⟩
theorem retQ.end_ {P fn ids res hp' st} (h : resA P st fn.results.toList = some res) (h2 : pickHp st.hp ids = some hp') (h3 : nodupB ids = true) : retQ P fn ids res hp' .normal st := ⟨.inr rfl, h, h2, h3⟩

theorem load_var {P : Program} {τ S w hp t a r y} (h : xLoad P hp t a = some (none, r)) (hH : HP τ S w hp) (hr : RelA τ S w a y) : ∃ z, (do loadVar t (← asAddr y) : Sem Value).run P w = .ok z w ∧ RelA τ S w r z := by
  let o : Oper := { (default : Oper) with op := .load t (.const y) }
  have hrel : RelA τ S w a ((fun x => match x with | .const v => v | _ => undef) (Operand.const y)) := hr
  obtain ⟨z, hz, hrz⟩ := xLoad_sound (o := o) (x := .const y) (ρ := fun x => match x with | .const v => v | _ => undef) h trivial hH hrel rfl
  refine ⟨z, ?_, hrz⟩
  have hptr : ∃ ad, y = .pointer (some ad) := by
    unfold xLoad at h
    split at h
    · obtain ⟨b, o0, hy, _⟩ := hr; exact ⟨_, hy⟩
    · obtain ⟨b, _, hy⟩ := hr; exact ⟨_, hy⟩
    · cases h
  obtain ⟨ad, rfl⟩ := hptr
  have : (Instr.loadAt t (.pointer (some ad))).run P w = .ok z w := by
    have h0 : (execOp (fun x => match x with | .const v => v | _ => undef) o).run P w = ((Instr.loadAt t (.pointer (some ad))).run P w).andThen fun v w => .ok (.value v) w := by
      simp [execOp, o]
    rw [h0] at hz
    cases hq : (Instr.loadAt t (.pointer (some ad))).run P w with
    | ok v w' =>
      rw [hq] at hz
      simp only [Result.andThen_ok, Result.ok.injEq, Next.value.injEq] at hz
      obtain ⟨rfl, rfl⟩ := hz
      rfl
    | halt x w' => rw [hq] at hz; simp at hz
  simpa [Instr.loadAt, Instr.sureAddr, asAddr] using this

theorem resT_run {P : Program} {E τ S st a w} (hc : Cfg E τ S st a w) : ∀ {l : List ResultVar} {rs : List AV}, resT P st l = some rs →
    ∃ vs : List Value, Sem.run P (l.mapM (m := Sem) fun (x : ResultVar) => match x with | .tmp t => pure (a.tmps.getD t undef) | .cell b t => do loadVar t (← asAddr (a.tmps.getD b undef))) w = .ok vs w ∧ RelT τ S w rs vs
  | [], rs, h => by simp [resT] at h; subst h; exact ⟨[], by simp, trivial⟩
  | .tmp t :: l, rs, h => by
    simp only [resT] at h
    have hr := hc.lk t
    split at h
    · rename_i x hx
      cases hq : resT P st l with
      | none => simp [hq] at h
      | some r =>
        simp only [hq, Option.map_some, Option.some.injEq] at h
        subst h
        obtain ⟨vs, h1, h2⟩ := resT_run hc hq
        rw [hx] at hr
        exact ⟨a.tmps.getD t undef :: vs, by simp only [List.mapM_cons, Sem.run_bind, Sem.run_pure, Result.andThen_ok, h1], hr, h2⟩
    · rename_i x hx
      cases hq : resT P st l with
      | none => simp [hq] at h
      | some r =>
        simp only [hq, Option.map_some, Option.some.injEq] at h
        subst h
        obtain ⟨vs, h1, h2⟩ := resT_run hc hq
        rw [hx] at hr
        exact ⟨a.tmps.getD t undef :: vs, by simp only [List.mapM_cons, Sem.run_bind, Sem.run_pure, Result.andThen_ok, h1], hr, h2⟩
    · cases h
  | .cell b t :: l, rs, h => by
    simp only [resT] at h
    split at h
    · rename_i x hx
      cases hq : resT P st l with
      | none => simp [hq] at h
      | some r =>
        simp only [hq, Option.map_some, Option.some.injEq] at h
        subst h
        obtain ⟨vs, h1, h2⟩ := resT_run hc hq
        obtain ⟨z, hz, hr⟩ := load_var hx hc.hp (hc.lk b)
        refine ⟨z :: vs, ?_, hr, h2⟩
        simp only [List.mapM_cons, Sem.run_bind] at hz h1 ⊢
        rw [hz]
        simp only [Result.andThen_ok, h1, Sem.run_pure]
    · rename_i x hx
      cases hq : resT P st l with
      | none => simp [hq] at h
      | some r =>
        simp only [hq, Option.map_some, Option.some.injEq] at h
        subst h
        obtain ⟨vs, h1, h2⟩ := resT_run hc hq
        obtain ⟨z, hz, hr⟩ := load_var hx hc.hp (hc.lk b)
        refine ⟨z :: vs, ?_, hr, h2⟩
        simp only [List.mapM_cons, Sem.run_bind] at hz h1 ⊢
        rw [hz]
        simp only [Result.andThen_ok, h1, Sem.run_pure]
    · cases h

theorem RelT.len {τ S w} : ∀ {l : List AV} {us : List Value}, RelT τ S w l us → l.length = us.length
  | [], [], _ => rfl
  | [], _ :: _, h => h.elim
  | _ :: _, [], h => h.elim
  | _ :: _, _ :: _, ⟨_, h⟩ => by simp [h.len]

theorem results_run {P : Program} {E τ S st a w fn res} (hc : Cfg E τ S st a w) (h : resA P st fn.results.toList = some res) : ∃ y, (results fn a.tmps).run P w = .ok y w ∧ RelA τ S w res y := by
  unfold resA at h
  have fin : ∀ rs, resT P st fn.results.toList = some rs → ∃ vs : List Value, RelT τ S w rs vs ∧ (results fn a.tmps).run P w = .ok (if h : vs.toArray.size = 1 then vs.toArray[0] else .tuple vs.toArray) w := by
    intro rs hq
    obtain ⟨vs, h1, h2⟩ := resT_run hc hq
    refine ⟨vs, h2, ?_⟩
    unfold results
    rw [← Array.toArray_toList (xs := fn.results), List.mapM_toArray]
    simp only [Sem.run_bind, Sem.run_map]
    erw [h1]
    rfl
  split at h
  · rename_i x hq
    simp only [Option.some.injEq] at h
    subst h
    obtain ⟨vs, hr, hrun⟩ := fin _ hq
    have hl := hr.len
    cases vs with
    | nil => exact hr.elim
    | cons v vs =>
      cases vs with
      | nil => exact ⟨v, by simpa using hrun, hr.1.a⟩
      | cons u vs => simp at hl
  · rename_i l hne hq
    simp only [Option.some.injEq] at h
    subst h
    obtain ⟨vs, hr, hrun⟩ := fin _ hq
    have hl := hr.len
    refine ⟨.tuple vs.toArray, ?_, vs, rfl, hr⟩
    rw [hrun, dif_neg]
    intro h1
    simp at h1
    rw [h1] at hl
    match l, hl with
    | [x], _ => exact hne x rfl
  · cases h

theorem slots_rel {τ S w} : ∀ {args : List AV} {vals : List Value} (pre rest : List Value), RelAs τ S w args vals → ∀ p ∈ slots pre.length args, ∃ y, (pre ++ vals ++ rest)[p.1]? = some y ∧ RelA τ S w p.2 y
  | [], [], _, _, _, p, hp => by simp [slots] at hp
  | [], _ :: _, _, _, h, _, _ => h.elim
  | _ :: _, [], _, _, h, _, _ => h.elim
  | x :: args, v :: vals, pre, rest, ⟨h1, h2⟩, p, hp => by
    simp only [slots, List.mem_cons] at hp
    rcases hp with rfl | hp
    · exact ⟨v, by simp, h1⟩
    · have := slots_rel (pre ++ [v]) rest h2 p (by simpa using hp)
      simpa using this
theorem RelAs.len {τ S w} : ∀ {l : List AV} {us : List Value}, RelAs τ S w l us → l.length = us.length
  | [], [], _ => rfl
  | [], _ :: _, h => h.elim
  | _ :: _, [], h => h.elim
  | _ :: _, _ :: _, ⟨_, h⟩ => by simp [h.len]

theorem Spec.enter {P : Program} {f : FuncId} {fn : Func} {c : Code} {args : List AV} {hp hp' : List (Nat × Ct)} {res : AV} {N : Nat} (ids : List Nat) (hf : P.funcs[f]? = some fn) (hb : fn.body = some c) (hN : fn.ntmps = N)
    (hl0 : Nat.ble args.length N = true) (h : WPA P N c ⟨slots 0 args, hp⟩ (retQ P fn ids res hp')) : Spec P f args hp res hp' := by
  have hl : args.length ≤ N := Nat.le_of_ble_eq_true hl0
  intro w vals τ S hr hH
  refine calls_of_wp hf hb ?_
  have hlen := hr.len
  let E : Env := ⟨w, OB τ hp, S, N, τ⟩
  have hc : Cfg E τ S ⟨slots 0 args, hp⟩ { tmps := vals.toArray ++ Array.replicate (fn.ntmps - vals.toArray.size) undef, defers := [] } w := by
    refine ⟨rfl, by simp [E, hN]; omega, ?_, hH, fun p hp b hb => .inl ⟨p, hp, hb⟩, fun b hb => .inl hb, ⟨rfl, rfl, rfl, Nat.le_refl _, fun _ _ _ => rfl⟩, fun _ _ => rfl⟩
    intro p hp
    obtain ⟨y, h1, h2⟩ := slots_rel [] (List.replicate (fn.ntmps - vals.length) undef) hr p hp
    refine ⟨y, ?_, h2⟩
    rw [← Array.getElem?_toList]
    simpa using h1
  refine wp_mono (h E τ S _ w rfl hc) fun e a' w' ⟨τ', S', st', ⟨he, h1, h2, h3⟩, hc'⟩ => ?_
  obtain ⟨y, hy, hry⟩ := results_run hc' h1
  have hout : Out τ S w hp τ' S' w' res y hp' :=
    ⟨hry, hc'.hp.pick h3 h2, fun p hp b hb => hc'.own p ((pickHp_mem h2).1 p hp) b hb, hc'.so, hc'.keep, hc'.base⟩
  rcases he with rfl | rfl
  · exact ⟨hc'.df, y, hy, y, τ', S', rfl, hout⟩
  · exact ⟨hc'.df, y, hy, y, τ', S', rfl, hout⟩

end Go.Abs
