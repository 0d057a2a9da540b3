/- DERIVED. Own theory, part 12: regions whose order the model draws. -/
import Derived.Test.YtlhiaclmbegaiaaGreatA11
set_option linter.unusedVariables false
set_option linter.unusedSimpArgs false
namespace Go.Abs

def dstOf (ops : Array Oper) (i : Nat) : Option Nat := (ops[i]?).bind (·.dst)
def foldD (ops : Array Oper) (V : Nat → AV) (L : Nat → Bool) (fr : List (Nat × AV)) : Nat → List (Nat × AV)
  | 0 => fr
  | n + 1 => if L n then putF (foldD ops V L fr n) (dstOf ops n) (V n) else foldD ops V L fr n

theorem lk_del : ∀ {fr : List (Nat × AV)} {d t : Nat}, d ≠ t → lk (del fr d) t = lk fr t
  | [], _, _, _ => rfl
  | (k, v) :: r, d, t, h => by
    unfold del
    by_cases hk : k = d
    · subst hk; simp only [if_true, lk, if_neg h]; exact lk_del h
    · simp only [hk, if_false, lk]; split
      · rfl
      · exact lk_del h
theorem lk_putF {fr : List (Nat × AV)} {d t : Nat} {v : AV} : lk (putF fr (some d) v) t = if d = t then v else lk fr t := by
  simp only [putF, lk]
  split
  · rfl
  · rename_i h; exact lk_del h

section
variable {ops : Array Oper} {V : Nat → AV} {L : Nat → Bool} {fr : List (Nat × AV)}
theorem lk_foldD_w : ∀ {n : Nat} {i t : Nat}, (∀ i j, i < n → j < n → dstOf ops i = some t → dstOf ops j = some t → i = j) → i < n → L i = true → dstOf ops i = some t → lk (foldD ops V L fr n) t = V i
  | 0, _, _, _, h, _, _ => by omega
  | n + 1, i, t, hu, hi, hL, hd => by
    unfold foldD
    by_cases e : i = n
    · subst e
      rw [if_pos hL, hd, lk_putF, if_pos rfl]
    · have ih := lk_foldD_w (n := n) (fun i j hi hj => hu i j (by omega) (by omega)) (by omega) hL hd
      split
      · cases hdn : dstOf ops n with
        | none => exact ih
        | some d =>
          rw [lk_putF, if_neg, ih]
          rintro rfl
          exact e (hu i n (by omega) (by omega) hd hdn)
      · exact ih
theorem lk_foldD_0 : ∀ {n : Nat} {t : Nat}, (∀ i, i < n → L i = true → dstOf ops i ≠ some t) → lk (foldD ops V L fr n) t = lk fr t
  | 0, _, _ => rfl
  | n + 1, t, h => by
    have ih := lk_foldD_0 (n := n) (t := t) fun i hi => h i (by omega)
    unfold foldD
    split
    · rename_i hL
      cases hdn : dstOf ops n with
      | none => exact ih
      | some d =>
        rw [lk_putF, if_neg, ih]
        rintro rfl
        exact h n (by omega) hL hdn
    · exact ih
theorem mem_foldD : ∀ {n : Nat} {p : Nat × AV}, p ∈ foldD ops V L fr n → (∃ i, i < n ∧ L i = true ∧ dstOf ops i = some p.1 ∧ p.2 = V i) ∨ (p ∈ fr ∧ ∀ i, i < n → L i = true → dstOf ops i ≠ some p.1)
  | 0, p, h => .inr ⟨h, fun i hi => by omega⟩
  | n + 1, p, h => by
    unfold foldD at h
    split at h
    · rename_i hL
      cases hdn : dstOf ops n with
      | none =>
        rw [hdn] at h
        rcases mem_foldD (n := n) h with ⟨i, h1, h2⟩ | ⟨h1, h2⟩
        · exact .inl ⟨i, by omega, h2⟩
        · refine .inr ⟨h1, fun i hi => ?_⟩
          by_cases e : i = n
          · subst e; rw [hdn]; exact fun _ h => by cases h
          · exact h2 i (by omega)
      | some d =>
        rw [hdn] at h
        simp only [putF, List.mem_cons] at h
        rcases h with rfl | h
        · exact .inl ⟨n, by omega, hL, hdn, rfl⟩
        · obtain ⟨h1, hne⟩ := mem_del.1 h
          rcases mem_foldD (n := n) h1 with ⟨i, h1, h2⟩ | ⟨h1, h2⟩
          · exact .inl ⟨i, by omega, h2⟩
          · refine .inr ⟨h1, fun i hi => ?_⟩
            by_cases e : i = n
            · subst e; rw [hdn]; exact fun _ h => hne (by simpa using h.symm)
            · exact h2 i (by omega)
    · rename_i hL
      rcases mem_foldD (n := n) h with ⟨i, h1, h2⟩ | ⟨h1, h2⟩
      · exact .inl ⟨i, by omega, h2⟩
      · refine .inr ⟨h1, fun i hi hLi => ?_⟩
        by_cases e : i = n
        · subst e; exact absurd hLi hL
        · exact h2 i (by omega) hLi
theorem foldD_mem_w : ∀ {n i t : Nat}, (∀ i j, i < n → j < n → dstOf ops i = some t → dstOf ops j = some t → i = j) → i < n → L i = true → dstOf ops i = some t → (t, V i) ∈ foldD ops V L fr n
  | 0, _, _, _, h, _, _ => by omega
  | n + 1, i, t, hu, hi, hL, hd => by
    unfold foldD
    by_cases e : i = n
    · subst e
      rw [if_pos hL, hd]
      simp [putF]
    · have ih := foldD_mem_w (n := n) (fun i j hi hj => hu i j (by omega) (by omega)) (by omega) hL hd
      split
      · cases hdn : dstOf ops n with
        | none => exact ih
        | some d =>
          simp only [putF, List.mem_cons]
          refine .inr (mem_del.2 ⟨ih, ?_⟩)
          intro h
          have h' : t = d := h
          subst h'
          exact e (hu i n (by omega) (by omega) hd hdn)
      · exact ih
theorem foldD_mem_0 : ∀ {n : Nat} {p : Nat × AV}, p ∈ fr → (∀ i, i < n → L i = true → dstOf ops i ≠ some p.1) → p ∈ foldD ops V L fr n
  | 0, _, h, _ => h
  | n + 1, p, hp, h => by
    have ih := foldD_mem_0 (n := n) hp fun i hi => h i (by omega)
    unfold foldD
    split
    · rename_i hL
      cases hdn : dstOf ops n with
      | none => exact ih
      | some d =>
        simp only [putF, List.mem_cons]
        refine .inr (mem_del.2 ⟨ih, fun e => ?_⟩)
        exact h n (by omega) hL (by rw [hdn, e])
    · exact ih
end

def bindAfter (o : Oper) : List Nat := (o.after.toList.filter (Region.binds .any)).map (·.on)
def after (ops : Array Oper) (i : Nat) : List Nat := match ops[i]? with | some o => bindAfter o | none => []
/-- The slots that an operation reads. -/
def reads (ops : Array Oper) (i : Nat) : List Nat := match ops[i]? with | some o => o.looksAt ops | none => []

/-- The order of writers and readers is fixed by the edges; slots are written once. -/
def dchk (ops : Array Oper) : Bool :=
  (List.range ops.size).all fun j =>
    (after ops j).all (fun i => decide (i < j)) &&
    (List.range ops.size).all fun i =>
      match dstOf ops i with
      | none => true
      | some t => (decide (i = j) || dstOf ops j != some t) && (!(reads ops j).contains t || (after ops j).contains i || (decide (i ≠ j) && (after ops i).contains j))

/-- What an operand of operation j is, in every order. -/
def envD (ops : Array Oper) (V : Nat → AV) (fr : List (Nat × AV)) (j : Nat) : Operand → AV
  | .tmp t => match (after ops j).find? (fun i => dstOf ops i == some t) with
    | some i => V i
    | none => lk fr t
  | .const v => xv v
  | .func f => xv (.func (.func f) #[] #[])
  | .global _ => .dead
def guardD (ops : Array Oper) (V : Nat → AV) (fr : List (Nat × AV)) (j : Nat) (o : Oper) : Option (Option Bool) :=
  match o.guard with
  | none => some none
  | some (i, b) =>
    match (ops[i]?).bind (·.dst) with
    | some t => match envD ops V fr j (.tmp t) with
      | .c (.d (.v (.bool q))) => some (some (match b with | true => q | false => !q))
      | .gd g (.c (.d (.v (.bool q)))) => some (some (g && (match b with | true => q | false => !q)))
      | _ => none
    | none => none
def owesD (G : Option Bool) (ρ : Operand → AV) : List Operand → Ob
  | [] => none
  | x :: l => obAnd (owe1 G (ρ x)) (owesD G ρ l)
/-- A value operation's result, at the heap hp. -/
def valD (P : Program) (N : Nat) (ops : Array Oper) (V : Nat → AV) (fr : List (Nat × AV)) (hp : List (Nat × Ct)) (j : Nat) : Option (Ob × AV) :=
  match ops[j]? with
  | none => none
  | some o =>
    if dstOk N o.dst then
      match guardD ops V fr j o with
      | none => none
      | some G =>
        match o.op with
        | .pick c a b => (xPick G (envD ops V fr j c) (envD ops V fr j a) (envD ops V fr j b)).map fun r => (r.1, gdA G r.2)
        | .buildSlice t len parts => match G, xBuildS P hp (envD ops V fr j) t len parts with
          | none, some av => some (none, av)
          | _, _ => none
        | op => match pval P hp (fun x => stripA (envD ops V fr j x)) op with
          | some (p, av) => some (obAnd (owesD G (envD ops V fr j) op.operands.toList) (obG G p), gdA G av)
          | none => none
    else none

theorem wpOps_one {P : Program} {ops : Array Oper} {E : Env} {T : ASt} {i : Nat} {a : Act} {w : World} {Q : Exit → Act → World → Prop} {K : Act → World → Prop}
    (h : wpOps P ops (Post E fun e st => e = .normal ∧ st = T) [i] a w) (hk : ∀ τ S a' w', Cfg E τ S T a' w' → K a' w') : wpOp P ops Q i K a w := by
  have hk' : ∀ a' w', wpOps P ops (Post E fun e st => e = .normal ∧ st = T) [] a' w' → K a' w' := by
    rintro a' w' ⟨τ, S, st, ⟨_, rfl⟩, hc⟩
    exact hk τ S a' w' hc
  have hno : ∀ e a' w', e ≠ .normal → ¬ Post E (fun e st => e = .normal ∧ st = T) e a' w' := by
    rintro e a' w' he ⟨τ, S, st, ⟨h1, _⟩, _⟩
    exact he h1
  unfold wpOp
  simp only [wpOps] at h
  cases ho : ops[i]? with
  | none => simp only [ho] at h; exact hk' a w h
  | some o =>
    simp only [ho] at h ⊢
    split
    · rename_i hw
      rw [if_pos hw] at h
      rcases h with h | ⟨_, a0, w0, h0⟩
      · refine .inl ?_
        unfold Oper.wp at *
        generalize (execOp a.eval o).run P w = r at *
        cases r with
        | ok n w' =>
          cases n <;> simp only [Oper.upon] at h ⊢ <;>
            first
              | exact hk' _ _ h
              | exact Calls.mono h (fun e w'' he => by cases e <;> first | exact hk' _ _ he | exact absurd he (hno _ _ _ (by simp)) | (obtain ⟨a0, w0, h0⟩ := he; exact absurd h0 (hno _ _ _ (by simp))))
              | exact Rows.mono h (fun _ _ he => hk' _ _ he)
        | halt x w' =>
          cases x <;> simp only [Oper.upon] at h ⊢ <;> first | exact h | exact absurd h (hno _ _ _ (by simp))
      · exact absurd h0 (hno _ _ _ (by simp))
    · rename_i hw
      rw [if_neg hw] at h
      exact hk' _ _ h

theorem Cfg.drew {E τ S st a w} (h : Cfg E τ S st a w) : Cfg E τ S st a { w with drawn := w.drawn + 1 } :=
  h.move (S' := S) (row := none) (w' := { w with drawn := w.drawn + 1 }) ⟨rfl, rfl, rfl, Nat.le_refl _, fun _ _ _ => rfl⟩ (fun _ h => h) (fun _ h => .inl h) (fun _ h => by cases h) (fun _ _ _ _ => rfl)
    ⟨fun p hp => RelCt.mono (τ := τ) (τ' := τ) (S := S) (S' := S) (w := w) (w' := { w with drawn := w.drawn + 1 }) ⟨fun _ h => h, fun _ _ => rfl⟩ (fun _ _ => rfl) (fun _ _ => rfl) (h.hp.ct p hp), h.hp.sep, h.hp.s, h.hp.ss⟩ h.own (fun _ _ => rfl)

/-- Operation i comes behind operation j, by up to three edges. -/
def afterT (ops : Array Oper) (i j : Nat) : Bool := (after ops i).contains j || (after ops i).any fun k => (after ops k).contains j || (after ops k).any fun q => (after ops q).contains j
/-- The sets of effects that can have been performed. -/
def idl (ops : Array Oper) : List (List Nat) → List Nat → List Nat → List (List Nat)
  | acc, _, [] => acc
  | acc, pre, e :: es => idl ops (acc ++ (acc.filter fun l => (after ops e).all fun x => !pre.contains x || l.contains x).map (· ++ [e])) (pre ++ [e]) es
def ideals (ops : Array Oper) (effs : List Nat) : List (List Nat) := idl ops [[]] [] effs
theorem idl_mem {ops : Array Oper} {m : Nat → Bool} : ∀ {es pre : List Nat} {acc : List (List Nat)}, (∀ x ∈ pre ++ es, m x = true → ∀ y ∈ after ops x, m y = true) → pre.filter m ∈ acc → (pre ++ es).filter m ∈ idl ops acc pre es
  | [], pre, acc, _, h => by simpa [idl] using h
  | e :: es, pre, acc, hm, h => by
    unfold idl
    have := idl_mem (es := es) (pre := pre ++ [e]) (acc := acc ++ (acc.filter fun l => (after ops e).all fun x => !pre.contains x || l.contains x).map (· ++ [e])) (by simpa using hm) ?_
    · simpa using this
    · rw [List.filter_append]
      by_cases he : m e = true
      · refine List.mem_append_right _ (List.mem_map.2 ⟨pre.filter m, List.mem_filter.2 ⟨h, ?_⟩, by simp [he]⟩)
        refine List.all_eq_true.2 fun x hx => ?_
        by_cases hp : x ∈ pre
        · have : m x = true := hm e (by simp) he x hx
          simp [hp, this]
        · simp [hp]
      · refine List.mem_append_left _ ?_
        simpa [he] using h
theorem ideals_mem {ops : Array Oper} {m : Nat → Bool} {effs : List Nat} (hm : ∀ x ∈ effs, m x = true → ∀ y ∈ after ops x, m y = true) : effs.filter m ∈ ideals ops effs := by
  have := idl_mem (ops := ops) (m := m) (es := effs) (pre := []) (acc := [[]]) (by simpa using hm) (by simp)
  unfold ideals
  simpa using this
/-- Operation j can be performed behind just those effects. -/
def okAt (ops : Array Oper) (effs l : List Nat) (j : Nat) : Bool := effs.all fun x => (!(after ops j).contains x || l.contains x) && (!afterT ops x j || !l.contains x)
def obsAll : List Ob → Prop
  | [] => True
  | p :: l => ob p ∧ obsAll l
theorem obsAll_at : ∀ {l : List Ob}, obsAll l → ∀ j, ob (l.getD j none)
  | [], _, j => by simp [List.getD, ob]
  | p :: l, h, 0 => h.1
  | p :: l, h, j + 1 => by simpa using obsAll_at h.2 j

/-- What an effect does, whatever else the frame holds. -/
def EffD (P : Program) (N : Nat) (ops : Array Oper) (V : Nat → AV) (fr : List (Nat × AV)) (j : Nat) (hp hp' : List (Nat × Ct)) : Prop :=
  ∀ fr', (∀ x ∈ (match ops[j]? with | some o => o.op.operands.toList | none => []), opA fr' x = envD ops V fr j x) → (∀ i b t, (ops[j]?).bind (·.guard) = some (i, b) → dstOf ops i = some t → lk fr' t = envD ops V fr j (.tmp t)) → (∀ id, frFresh id fr = true → ((List.range ops.size).all fun i => (i == j || afterT ops i j) || !(V i).has id) = true → frFresh id fr' = true) →
    ∀ Q : Exit → ASt → Prop, Q .normal ⟨putF fr' (dstOf ops j) (V j), hp'⟩ → WO P N ops [j] ⟨fr', hp⟩ Q
theorem foldD_congr {ops : Array Oper} {V : Nat → AV} {fr : List (Nat × AV)} {L L' : Nat → Bool} : ∀ {n : Nat}, (∀ i, i < n → L i = L' i) → foldD ops V L fr n = foldD ops V L' fr n
  | 0, _ => rfl
  | n + 1, h => by
    unfold foldD
    rw [h n (by omega), foldD_congr (n := n) fun i hi => h i (by omega)]
theorem filter_lt {p q : Nat → Bool} {j : Nat} : ∀ {l : List Nat}, j ∈ l → p j = true → q j = false → (∀ i, q i = true → p i = true) → (l.filter q).length < (l.filter p).length
  | [], h, _, _, _ => by cases h
  | x :: l, h, hp, hq, hi => by
    have hle : ∀ m : List Nat, (m.filter q).length ≤ (m.filter p).length := by
      intro m
      induction m with
      | nil => simp
      | cons y m ih =>
        simp only [List.filter_cons]
        cases hqy : q y with
        | true => simp [hi y hqy, ih]
        | false => cases hpy : p y <;> simp <;> omega
    simp only [List.filter_cons]
    rcases List.mem_cons.1 h with rfl | h
    · simp only [hp, hq, if_true, Bool.false_eq_true, if_false, List.length_cons]
      exact Nat.lt_succ_of_le (hle l)
    · have ih := filter_lt h hp hq hi
      cases hqy : q x with
      | true => simp [hi x hqy, ih]
      | false => cases hpy : p x <;> simp <;> omega
theorem WPA.drawn {P : Program} {N id : Nat} {ops : Array Oper} {st st' : ASt} {Q : Exit → ASt → Prop} (hm : P.follows .mixedOrders = true) (V : Nat → AV) (obs : List Ob) (H : List Nat → List (Nat × Ct)) (effs live ids : List Nat)
    (hc : (dchk ops && effs.all (fun i => decide (i < ops.size))) = true) (h0 : H [] = st.hp)
    (hv : ∀ j, j < ops.size → j ∉ effs → ∀ l ∈ ideals ops effs, okAt ops effs l j = true → valD P N ops V st.fr (H l) j = some (obs.getD j none, V j)) (ho : obsAll obs)
    (he : ∀ j ∈ effs, ∀ l ∈ ideals ops effs, okAt ops effs l j = true → j ∉ l → EffD P N ops V st.fr j (H l) (H (effs.filter fun x => l.contains x || x == j)))
    (hst : Abs.can N ⟨foldD ops V (fun _ => true) st.fr ops.size, H effs⟩ live ids = some st') (k : WO P N ops [] st' Q) : WPA P N (.region id ops true) st Q := by
  simp only [Bool.and_eq_true] at hc
  obtain ⟨hd, hel⟩ := hc
  have hd1 : ∀ j, j < ops.size → ∀ i ∈ after ops j, i < j := by
    intro j hj i hi
    have := List.all_eq_true.1 hd j (by simpa using hj)
    simp only [Bool.and_eq_true] at this
    have := List.all_eq_true.1 this.1 i hi
    simpa using this
  have hd2 : ∀ j i t, j < ops.size → i < ops.size → dstOf ops i = some t → (i = j ∨ dstOf ops j ≠ some t) ∧ (t ∉ reads ops j ∨ i ∈ after ops j ∨ (i ≠ j ∧ j ∈ after ops i)) := by
    intro j i t hj hi ht
    have := List.all_eq_true.1 hd j (by simpa using hj)
    simp only [Bool.and_eq_true] at this
    have := List.all_eq_true.1 this.2 i (by simpa using hi)
    simp only [ht, Bool.and_eq_true, Bool.or_eq_true, decide_eq_true_eq, bne_iff_ne, Bool.not_eq_true', List.contains_eq_mem, decide_eq_false_iff_not] at this
    obtain ⟨h1, h2⟩ := this
    exact ⟨h1, by rcases h2 with (h2 | h2) | h2 <;> simp_all⟩
  have huniq : ∀ i j t, i < ops.size → j < ops.size → dstOf ops i = some t → dstOf ops j = some t → i = j := by
    intro i j t hi hj h1 h2
    exact ((hd2 j i t hj hi h1).1).resolve_right (fun h => h h2)
  have hlt_of_dst : ∀ i t, dstOf ops i = some t → i < ops.size := by
    intro i t h
    unfold dstOf at h
    cases hh : ops[i]? with
    | none => simp [hh] at h
    | some o => exact (Array.getElem?_eq_some_iff.1 hh).1
  have heff : ∀ x, x ∈ effs → x < ops.size := fun x hx => by have := List.all_eq_true.1 hel x hx; simpa using this
  let lm : Array Bool → List Nat := fun L => effs.filter fun x => L.getD x false
  intro E τ S a w hE hC
  refine wp_region_any hm ?_
  have hC := hC.drew
  generalize ({ w with drawn := w.drawn + 1 } : World) = w at hC
  -- the claim, of any set of operations that have been performed
  have claim : ∀ (fuel : Nat) (L : Array Bool) (a : Act) (w : World) (τ : Nat → Value) (S : Nat → Prop), L.size = ops.size → ((List.range ops.size).filter fun i => !(L.getD i false)).length ≤ fuel →
      (∀ j, j < ops.size → L.getD j false = true → ∀ i ∈ after ops j, L.getD i false = true) →
      Cfg E τ S ⟨foldD ops V (fun i => L.getD i false) st.fr ops.size, H (lm L)⟩ a w → wpAny P .any ops (Post E Q) fuel L a w := by
    have done : ∀ (L : Array Bool) (a : Act) (w : World) (τ : Nat → Value) (S : Nat → Prop), (∀ j, j < ops.size → L.getD j false = true) →
        Cfg E τ S ⟨foldD ops V (fun i => L.getD i false) st.fr ops.size, H (lm L)⟩ a w → Post E Q .normal a w := by
      intro L a w τ S hall hcc
      have e1 : foldD ops V (fun i => L.getD i false) st.fr ops.size = foldD ops V (fun _ => true) st.fr ops.size := foldD_congr hall
      have e2 : lm L = effs := List.filter_eq_self.2 fun x hx => hall x (heff x hx)
      rw [e1, e2] at hcc
      exact k E τ S a w hE (hcc.can (hE ▸ hst))
    have readyNil : ∀ (L : Array Bool), L.size = ops.size → Region.ready .any ops L = [] → ∀ j, j < ops.size → L.getD j false = true := by
      intro L hsz hr j
      induction j using Nat.strongRecOn with
      | _ j ih =>
        intro hj
        cases hL : L.getD j false with
        | true => rfl
        | false =>
          exfalso
          have : j ∈ Region.ready .any ops L := by
            rw [mem_ready]
            have hj' : j < L.size := by omega
            refine ⟨?_, ops[j], by simp [hj], fun ed hed hb => ?_⟩
            · rw [Array.getD_eq_getD_getElem?, Array.getElem?_eq_getElem hj'] at hL ⊢
              simpa using hL
            · have hin : ed.on ∈ after ops j := by
                unfold after bindAfter
                simp only [Array.getElem?_eq_getElem hj]
                exact List.mem_map.2 ⟨ed, List.mem_filter.2 ⟨by simpa using hed, hb⟩, rfl⟩
              have hlt := hd1 j hj _ hin
              exact ih _ hlt (by omega)
          rw [hr] at this
          cases this
    intro fuel
    induction fuel with
    | zero =>
      intro L a w τ S hsz hcnt hdc hcc
      have hall : ∀ j, j < ops.size → L.getD j false = true := by
        intro j hj
        cases hL : L.getD j false with
        | true => rfl
        | false =>
          have : j ∈ (List.range ops.size).filter fun i => !(L.getD i false) := List.mem_filter.2 ⟨by simpa using hj, by simp only [hL]; rfl⟩
          have hn : ((List.range ops.size).filter fun i => !(L.getD i false)) = [] := List.eq_nil_of_length_eq_zero (by omega)
          rw [hn] at this
          cases this
      refine ⟨?_, done L a w τ S hall hcc⟩
      apply List.eq_nil_iff_forall_not_mem.2
      intro j hj
      obtain ⟨h1, o, h2, _⟩ := mem_ready.1 hj
      have hj' : j < ops.size := (Array.getElem?_eq_some_iff.1 h2).1
      have := hall j hj'
      rw [Array.getD_eq_getD_getElem?, Array.getElem?_eq_getElem (by omega)] at h1 this
      simp at h1 this
      rw [h1] at this
      cases this
    | succ fuel ih =>
      intro L a w τ S hsz hcnt hdc hcc
      refine ⟨fun hr => done L a w τ S (readyNil L hsz hr) hcc, fun j hj => ?_⟩
      obtain ⟨hun, o, hoj, hed⟩ := mem_ready.1 hj
      have hjn : j < ops.size := (Array.getElem?_eq_some_iff.1 hoj).1
      have hLj : L.getD j false = false := by
        rw [Array.getD_eq_getD_getElem?, Array.getElem?_eq_getElem (by omega)] at hun ⊢
        simpa using hun
      have hafter : ∀ i ∈ after ops j, L.getD i false = true := by
        intro i hi
        unfold after at hi
        simp only [hoj] at hi
        obtain ⟨ed, hed', rfl⟩ := List.mem_map.1 hi
        obtain ⟨h1, h2⟩ := List.mem_filter.1 hed'
        exact hed ed (by simpa using h1) h2
      -- operands
      have henv : ∀ t, t ∈ reads ops j → lk (foldD ops V (fun i => L.getD i false) st.fr ops.size) t = envD ops V st.fr j (.tmp t) := by
        intro t ht
        show _ = (match (after ops j).find? (fun i => dstOf ops i == some t) with | some i => V i | none => lk st.fr t)
        cases hf : (after ops j).find? (fun i => dstOf ops i == some t) with
        | some i =>
          have h1 := List.mem_of_find?_eq_some hf
          have h2 : dstOf ops i = some t := by have := List.find?_some hf; simpa using this
          exact lk_foldD_w (fun i j hi hj => huniq i j t hi hj) (hlt_of_dst i t h2) (hafter i h1) h2
        | none =>
          refine lk_foldD_0 fun i hi hLi hdi => ?_
          have hLi : L.getD i false = true := hLi
          rcases (hd2 j i t hjn hi hdi).2 with h | h | ⟨_, h⟩
          · exact h ht
          · have := List.find?_eq_none.1 hf i h
            simp [hdi] at this
          · have := hdc i hi hLi j h
            rw [hLj] at this
            cases this
      have henvO : ∀ x ∈ o.op.operands.toList, opA (foldD ops V (fun i => L.getD i false) st.fr ops.size) x = envD ops V st.fr j x := by
        intro x hx
        cases x with
        | tmp t =>
          refine henv t ?_
          unfold reads
          simp only [hoj, Oper.looksAt]
          exact List.mem_append_left _ (List.mem_filterMap.2 ⟨.tmp t, hx, rfl⟩)
        | const v => rfl
        | global g => rfl
        | func f => rfl
      -- behind operation j
      have hid : lm L ∈ ideals ops effs := ideals_mem fun x hx hLx y hy => hdc x (heff x hx) hLx y hy
      have hmem : ∀ x, x ∈ lm L ↔ x ∈ effs ∧ L.getD x false = true := fun x => List.mem_filter
      have hok : okAt ops effs (lm L) j = true := by
        refine List.all_eq_true.2 fun x hx => ?_
        simp only [Bool.and_eq_true, Bool.or_eq_true, Bool.not_eq_true', List.contains_eq_mem, decide_eq_false_iff_not, decide_eq_true_eq]
        refine ⟨?_, ?_⟩
        · by_cases h : x ∈ after ops j
          · exact .inr ((hmem x).2 ⟨hx, hafter x h⟩)
          · exact .inl h
        · by_cases h : x ∈ lm L
          · refine .inl ?_
            have hLx := ((hmem x).1 h).2
            cases ht : afterT ops x j with
            | false => rfl
            | true =>
              exfalso
              have up : ∀ i, i < ops.size → L.getD i false = true → ∀ k ∈ after ops i, k < ops.size ∧ L.getD k false = true := fun i hi hL k hk => ⟨Nat.lt_trans (hd1 i hi k hk) hi, hdc i hi hL k hk⟩
              have h3 := heff x hx
              simp only [afterT, Bool.or_eq_true, List.any_eq_true, List.contains_eq_mem, decide_eq_true_eq] at ht
              rcases ht with h | ⟨k, hk, h | ⟨q, hq, h⟩⟩
              · have := (up x h3 hLx j h).2; rw [hLj] at this; cases this
              · obtain ⟨k1, k2⟩ := up x h3 hLx k hk
                have := (up k k1 k2 j h).2; rw [hLj] at this; cases this
              · obtain ⟨k1, k2⟩ := up x h3 hLx k hk
                obtain ⟨q1, q2⟩ := up k k1 k2 q hq
                have := (up q q1 q2 j h).2; rw [hLj] at this; cases this
          · exact .inr h
      have hjl : j ∉ lm L := fun h => by have := ((hmem j).1 h).2; rw [hLj] at this; cases this
      have hnext : ∀ (hp' : List (Nat × Ct)), hp' = H (lm (L.setIfInBounds j true)) →
          ∀ τ' S' a' w', Cfg E τ' S' ⟨putF (foldD ops V (fun i => L.getD i false) st.fr ops.size) (dstOf ops j) (V j), hp'⟩ a' w' → wpAny P .any ops (Post E Q) fuel (L.setIfInBounds j true) a' w' := by
        intro hp' hh τ' S' a' w' hcc'
        subst hh
        have hset : ∀ i, (L.setIfInBounds j true).getD i false = if i = j then true else L.getD i false := by
          intro i
          by_cases e : i = j
          · subst e
            rw [if_pos rfl, Array.getD_eq_getD_getElem?, Array.getElem?_setIfInBounds_self]
            simp [show i < L.size from by omega]
          · rw [if_neg e, Array.getD_eq_getD_getElem?, Array.getElem?_setIfInBounds_ne (Ne.symm e), Array.getD_eq_getD_getElem?]
        refine ih (L.setIfInBounds j true) a' w' τ' S' (by simpa using hsz) ?_ ?_ ?_
        · have := filter_lt (l := List.range ops.size) (j := j) (p := fun i => !(L.getD i false)) (q := fun i => !((L.setIfInBounds j true).getD i false)) (by simpa using hjn) (by simp only [hLj]; rfl) (by simp only [hset, if_true]; rfl) (fun i hi => by
            simp only [hset] at hi
            split at hi
            · cases hi
            · exact hi)
          omega
        · intro i hi hLi x hx
          rw [hset] at hLi ⊢
          split
          · rfl
          · split at hLi
            · rename_i e; subst e; exact hafter x hx
            · exact hdc i hi hLi x hx
        · refine hcc'.weaken ⟨fun p hp => ?_, List.Sublist.refl _⟩
          rcases mem_foldD hp with ⟨i, h1, h2, h3, h4⟩ | ⟨h1, h2⟩
          · simp only [hset] at h2
            by_cases e : i = j
            · subst e
              rw [h3]
              obtain ⟨p1, p2⟩ := p
              simp only at h3 h4
              subst h4
              simp [putF]
            · rw [if_neg e] at h2
              have hin : p ∈ foldD ops V (fun i => L.getD i false) st.fr ops.size := by
                have := foldD_mem_w (ops := ops) (V := V) (L := fun i => L.getD i false) (fr := st.fr) (n := ops.size) (fun i j hi hj => huniq i j p.1 hi hj) h1 h2 h3
                rwa [← h4] at this
              cases hdj : dstOf ops j with
              | none => exact hin
              | some d =>
                simp only [putF, List.mem_cons]
                refine .inr (mem_del.2 ⟨hin, fun ee => ?_⟩)
                exact e (huniq i j d h1 hjn (by rw [h3, ee]) hdj)
          · have hin : p ∈ foldD ops V (fun i => L.getD i false) st.fr ops.size := foldD_mem_0 h1 fun i hi hLi => h2 i hi (by simp only [hset]; split <;> first | rfl | exact hLi)
            cases hdj : dstOf ops j with
            | none => exact hin
            | some d =>
              simp only [putF, List.mem_cons]
              refine .inr (mem_del.2 ⟨hin, fun ee => ?_⟩)
              exact h2 j hjn (by simp only [hset, if_true]) (by rw [hdj, ee])
      have hsetE : ∀ x, x ≠ j → (L.setIfInBounds j true).getD x false = L.getD x false := by
        intro x hx
        rw [Array.getD_eq_getD_getElem?, Array.getElem?_setIfInBounds_ne (Ne.symm hx), Array.getD_eq_getD_getElem?]
      have hsetJ : (L.setIfInBounds j true).getD j false = true := by
        rw [Array.getD_eq_getD_getElem?, Array.getElem?_setIfInBounds_self]
        simp [show j < L.size from by omega]
      by_cases hje : j ∈ effs
      · -- an effect
        have heffk := he j hje (lm L) hid hok hjl
        have hW := heffk (foldD ops V (fun i => L.getD i false) st.fr ops.size) (by simp only [hoj]; exact henvO) (fun i b t hgd hdt => by
          simp only [hoj, Option.bind_some] at hgd
          refine henv t ?_
          unfold reads
          simp only [hoj, Oper.looksAt]
          exact List.mem_append_right _ (by simp only [hgd]; rw [show (ops[i]?).bind (·.dst) = some t from hdt]; simp)) (fun id h1 h2 => by
          have gen : ∀ l : List (Nat × AV), (∀ p ∈ l, p.2.has id = false) → frFresh id l = true := by
            intro l
            induction l with
            | nil => intro _; rfl
            | cons p l ih => intro h; simp only [frFresh, h p (by simp), Bool.not_false, Bool.true_and]; exact ih fun q hq => h q (List.mem_cons_of_mem _ hq)
          refine gen _ fun p hp => ?_
          rcases mem_foldD hp with ⟨i, h3, _, _, h4⟩ | ⟨h3, _⟩
          · rw [h4]
            rename_i hLi _
            have hLi : L.getD i false = true := hLi
            have := List.all_eq_true.1 h2 i (by simpa using h3)
            simp only [Bool.or_eq_true, beq_iff_eq, Bool.not_eq_true'] at this
            rcases this with (e | h) | h
            · subst e; rw [hLj] at hLi; cases hLi
            · exfalso
              have up : ∀ i, i < ops.size → L.getD i false = true → ∀ k ∈ after ops i, k < ops.size ∧ L.getD k false = true := fun i hi hL k hk => ⟨Nat.lt_trans (hd1 i hi k hk) hi, hdc i hi hL k hk⟩
              simp only [afterT, Bool.or_eq_true, List.any_eq_true, List.contains_eq_mem, decide_eq_true_eq] at h
              rcases h with h | ⟨k, hk, h | ⟨q, hq, h⟩⟩
              · have := (up i h3 hLi j h).2; rw [hLj] at this; cases this
              · obtain ⟨k1, k2⟩ := up i h3 hLi k hk
                have := (up k k1 k2 j h).2; rw [hLj] at this; cases this
              · obtain ⟨k1, k2⟩ := up i h3 hLi k hk
                obtain ⟨q1, q2⟩ := up k k1 k2 q hq
                have := (up q q1 q2 j h).2; rw [hLj] at this; cases this
            · exact h
          · exact frFresh_spec h1 p h3) (fun e' st0 => e' = .normal ∧ st0 = ⟨putF (foldD ops V (fun i => L.getD i false) st.fr ops.size) (dstOf ops j) (V j), H (effs.filter fun x => (lm L).contains x || x == j)⟩) ⟨rfl, rfl⟩
        refine wpOps_one (hW E τ S a w hE hcc) fun τ' S' a' w' hcc' => hnext _ ?_ τ' S' a' w' hcc'
        congr 1
        refine List.filter_congr fun x hx => ?_
        by_cases ex : x = j
        · subst ex
          rw [hsetJ]
          simp
        · rw [hsetE x ex]
          rw [Bool.eq_iff_iff]
          simp only [Bool.or_eq_true, List.contains_eq_mem, decide_eq_true_eq, beq_iff_eq, ex, or_false, hmem x, hx, true_and]
      · -- a value
        have hval := hv j hjn hje (lm L) hid hok
        have hob := obsAll_at ho j
        have hW : WO P N ops [j] ⟨foldD ops V (fun i => L.getD i false) st.fr ops.size, H (lm L)⟩ (fun e' st0 => e' = .normal ∧ st0 = ⟨putF (foldD ops V (fun i => L.getD i false) st.fr ops.size) (dstOf ops j) (V j), H (lm L)⟩) := by
          unfold valD at hval
          simp only [hoj] at hval
          split at hval
          case isFalse => cases hval
          rename_i hdst
          have hdj : dstOf ops j = o.dst := by simp [dstOf, hoj]
          cases hg : guardD ops V st.fr j o with
          | none => simp [hg] at hval
          | some G =>
            simp only [hg] at hval
            have hgo : guardOf (foldD ops V (fun i => L.getD i false) st.fr ops.size) ops o = some G := by
              unfold guardD at hg
              unfold guardOf
              cases hgd : o.guard with
              | none => simpa [hgd] using hg
              | some ib =>
                obtain ⟨i, b⟩ := ib
                simp only [hgd] at hg ⊢
                cases hdt : (ops[i]?).bind (·.dst) with
                | none => simp [hdt] at hg
                | some t =>
                  simp only [hdt] at hg ⊢
                  rw [henv t]
                  · exact hg
                  · unfold reads
                    simp only [hoj, Oper.looksAt, hgd]
                    exact List.mem_append_right _ (by simp [hdt])
            split at hval
            · rename_i c a0 b0 hop
              cases hx : xPick G (envD ops V st.fr j c) (envD ops V st.fr j a0) (envD ops V st.fr j b0) with
              | none => simp [hx] at hval
              | some r =>
                simp only [hx, Option.map_some, Option.some.injEq, Prod.mk.injEq] at hval
                obtain ⟨hr1, hr2⟩ := hval
                rw [← hr1] at hob
                rw [← hr2, hdj]
                have hxx : xPick G (opA (foldD ops V (fun i => L.getD i false) st.fr ops.size) c) (opA (foldD ops V (fun i => L.getD i false) st.fr ops.size) a0) (opA (foldD ops V (fun i => L.getD i false) st.fr ops.size) b0) = some r := by
                  rw [henvO c (by simp [hop, Op.operands]), henvO a0 (by simp [hop, Op.operands]), henvO b0 (by simp [hop, Op.operands])]
                  exact hx
                exact WO.val hoj hdst hgo (fun E τ S a' w hc hG => pick_ans (r := r.2) hop hxx hob (fun x => hc.opA x) hG) (WO.nil ⟨rfl, rfl⟩)
            · rename_i t len parts hop
              split at hval
              · rename_i av hb
                simp only [Option.some.injEq, Prod.mk.injEq] at hval
                obtain ⟨_, hr2⟩ := hval
                rw [← hr2, hdj]
                refine WO.buildS hoj hop hgo hdst ?_ (WO.nil ⟨rfl, rfl⟩)
                have hparts : (parts.toList.map fun x => (x.1, opA (foldD ops V (fun i => L.getD i false) st.fr ops.size) x.2)) = (parts.toList.map fun x => (x.1, envD ops V st.fr j x.2)) := by
                  refine List.map_congr_left fun x hx => ?_
                  rw [henvO x.2 (by simp only [hop, Op.operands]; simp; exact ⟨x.1, by simpa using hx⟩)]
                have hb' := hb
                unfold xBuildS at hb' ⊢
                rw [hparts]
                exact hb'
              · cases hval
            · cases hpv : pval P (H (lm L)) (fun x => stripA (envD ops V st.fr j x)) o.op with
              | none => simp only [hpv] at hval; cases hval
              | some r =>
                obtain ⟨q, av⟩ := r
                simp only [hpv, Option.some.injEq, Prod.mk.injEq] at hval
                obtain ⟨hr1, hr2⟩ := hval
                rw [← hr1] at hob
                rw [← hr2, hdj]
                obtain ⟨ho1, ho2⟩ := obAnd_iff hob
                refine WO.val hoj hdst hgo (fun E τ S a w hc hG => ?_) (WO.nil ⟨rfl, rfl⟩)
                refine pval_sound hpv (ob_G ho2 hG) hc.hp fun x hx => ?_
                have hrel := hc.opA x
                rw [henvO x hx] at hrel
                have how : ob (owe1 G (envD ops V st.fr j x)) := by
                  have gen : ∀ l : List Operand, ob (owesD G (envD ops V st.fr j) l) → ∀ x ∈ l, ob (owe1 G (envD ops V st.fr j x)) := by
                    intro l
                    induction l with
                    | nil => intro _ x hx; cases hx
                    | cons y l ih =>
                      intro h x hx
                      obtain ⟨h1, h2⟩ := obAnd_iff h
                      rcases List.mem_cons.1 hx with e | hx1
                      · rw [e]; exact h1
                      · exact ih h2 x hx1
                  exact gen _ ho1 x hx
                exact strip_rel hrel how hG
        refine wpOps_one (hW E τ S a w hE hcc) fun τ' S' a' w' hcc' => hnext _ ?_ τ' S' a' w' hcc'
        congr 1
        exact List.filter_congr fun x hx => by rw [hsetE x (fun ex => hje (ex ▸ hx))]
  refine claim ops.size (Array.replicate ops.size false) a w τ S (by simp) (by exact Nat.le_trans (List.length_filter_le _ _) (by simp)) (fun j _ h => ?_) ?_
  · simp [Array.getD_eq_getD_getElem?, Array.getElem?_replicate] at h
    split at h <;> simp at h
  · have e0 : ∀ n, (Array.replicate ops.size false).getD n false = false := by
      intro n
      rw [Array.getD_eq_getD_getElem?, Array.getElem?_replicate]
      split <;> rfl
    have e1 : foldD ops V (fun i => (Array.replicate ops.size false).getD i false) st.fr ops.size = st.fr := by
      have : ∀ n, foldD ops V (fun i => (Array.replicate ops.size false).getD i false) st.fr n = st.fr := by
        intro n
        induction n with
        | zero => rfl
        | succ n ih =>
          unfold foldD
          rw [ih, e0 n]
          rfl
      exact this _
    have e2 : lm (Array.replicate ops.size false) = [] := List.filter_eq_nil_iff.2 fun x _ => by rw [e0 x]; simp
    rw [e1, e2, h0]
    exact hC

end Go.Abs
