/- DERIVED. Own theory, part 7: runs of steps; the rules of code; contracts and calls. -/
import Derived.Test.YtlhiaclmbegaiaaGreatA6
set_option linter.unusedVariables false
set_option linter.unusedSimpArgs false
namespace Go.Abs

def arun (P : Program) (N : Nat) (ops : Array Oper) : Nat → List Nat → ASt → Nat → Option (Ob × List Nat × ASt × Nat)
  | 0, l, st, nx => some (none, l, st, nx)
  | _ + 1, [], st, nx => some (none, [], st, nx)
  | n + 1, i :: l, st, nx =>
    match ops[i]? with
    | none => none
    | some o => match astep P N ops o st nx with
      | none => none
      | some (p, st1, nx1) => match arun P N ops n l st1 nx1 with
        | none => none
        | some (q, r) => some (obAnd p q, r)

def pickHp (hp : List (Nat × Ct)) : List Nat → Option (List (Nat × Ct))
  | [] => some []
  | i :: l => match lkH hp i, pickHp hp l with
    | some c, some r => some ((i, c) :: r)
    | _, _ => none
def nodupB : List Nat → Bool
  | [] => true
  | x :: l => !l.contains x && nodupB l
theorem pickHp_mem {hp : List (Nat × Ct)} : ∀ {l : List Nat} {r : List (Nat × Ct)}, pickHp hp l = some r → (∀ p ∈ r, p ∈ hp) ∧ r.map (·.1) = l
  | [], r, h => by simp [pickHp] at h; subst h; exact ⟨fun p hp => (by cases hp), rfl⟩
  | i :: l, r, h => by
    simp only [pickHp] at h
    split at h
    · rename_i c r' hc hr
      simp only [Option.some.injEq] at h
      subst h
      obtain ⟨h1, h2⟩ := pickHp_mem hr
      refine ⟨fun p hp => ?_, by simp [h2]⟩
      rcases List.mem_cons.1 hp with e | hp1
      · rw [e]; exact lkH_mem hc
      · exact h1 p hp1
    · cases h
theorem nodupB_spec : ∀ {l : List Nat}, nodupB l = true → l.Nodup
  | [], _ => List.nodup_nil
  | x :: l, h => by
    simp only [nodupB, Bool.and_eq_true, Bool.not_eq_true'] at h
    exact List.nodup_cons.2 ⟨by simpa using h.1, nodupB_spec h.2⟩
theorem HP.pick {τ S w hp} (h : HP τ S w hp) {l : List Nat} {r : List (Nat × Ct)} (hl : nodupB l = true) (hr : pickHp hp l = some r) : HP τ S w r := by
  obtain ⟨hm, hk⟩ := pickHp_mem hr
  refine ⟨fun p hp => h.ct p (hm p hp), ?_, h.s, fun b hb p hp => h.ss b hb p (hm p hp)⟩
  have hnd : (r.map (·.1)).Nodup := hk ▸ nodupB_spec hl
  have : r.Pairwise fun p q => p.1 ≠ q.1 := List.pairwise_map.1 hnd
  exact List.Pairwise.imp_of_mem (fun {p q} hp hq hne => ⟨hne, fun b hb => h.apart (hm p hp) (hm q hq) hne b hb⟩) this

/-- What is kept of a state, in the order that is asked for. -/
def can (N : Nat) (st : ASt) (live ids : List Nat) : Option ASt :=
  if live.all (fun t => decide (t < N)) && nodupB ids then (pickHp st.hp ids).map fun h => ⟨live.map fun t => (t, lk st.fr t), h⟩ else none
theorem Cfg.can {E τ S st st' a w live ids} (h : Cfg E τ S st a w) (hc : can E.N st live ids = some st') : Cfg E τ S st' a w := by
  unfold Abs.can at hc
  split at hc
  case isFalse => cases hc
  rename_i hk
  simp only [Bool.and_eq_true] at hk
  cases hp : pickHp st.hp ids with
  | none => simp [hp] at hc
  | some r =>
    simp only [hp, Option.map_some, Option.some.injEq] at hc
    subst hc
    refine ⟨h.df, h.sz, ?_, h.hp.pick hk.2 hp, fun p hpp => h.own p ((pickHp_mem hp).1 p hpp), h.so, h.keep, h.base⟩
    intro p hpp
    obtain ⟨t, ht, rfl⟩ := List.mem_map.1 hpp
    have htN : t < E.N := by have := List.all_eq_true.1 hk.1 t ht; simpa using this
    have hr := h.lk t
    have hts : t < a.tmps.size := by rw [h.sz]; exact htN
    refine ⟨a.tmps[t], by simp [hts], ?_⟩
    simpa [hts] using hr
theorem WO.can {P N ops l st st' Q} (live ids : List Nat) (hc : can N st live ids = some st') (k : WO P N ops l st' Q) : WO P N ops l st Q :=
  fun E τ S a w hE h => k E τ S a w hE (h.can (hE ▸ hc))
theorem WPA.can {P N c st st' Q} (live ids : List Nat) (hc : can N st live ids = some st') (k : WPA P N c st' Q) : WPA P N c st Q :=
  fun E τ S a w hE h => k E τ S a w hE (h.can (hE ▸ hc))

theorem WO.weaken {P N ops l st st' Q} (hl : Le st st') (k : WO P N ops l st' Q) : WO P N ops l st Q :=
  fun E τ S a w hE h => k E τ S a w hE (h.weaken hl)
theorem WPA.weaken {P N c st st' Q} (hl : Le st st') (k : WPA P N c st' Q) : WPA P N c st Q :=
  fun E τ S a w hE h => k E τ S a w hE (h.weaken hl)

theorem arun_sound {P N ops Q} : ∀ (n : Nat) {l l' : List Nat} {st st' : ASt} {nx nx' : Nat} {p : Ob}, arun P N ops n l st nx = some (p, l', st', nx') → ob p → WO P N ops l' st' Q → WO P N ops l st Q
  | 0, l, l', st, st', nx, nx', p, h, _, k => by
    simp only [arun, Option.some.injEq, Prod.mk.injEq] at h
    obtain ⟨_, rfl, rfl, _⟩ := h
    exact k
  | n + 1, [], l', st, st', nx, nx', p, h, _, k => by
    simp only [arun, Option.some.injEq, Prod.mk.injEq] at h
    obtain ⟨_, rfl, rfl, _⟩ := h
    exact k
  | n + 1, i :: l, l', st, st', nx, nx', p, h, hp, k => by
    simp only [arun] at h
    split at h
    · cases h
    · rename_i o ho
      split at h
      · cases h
      · rename_i q st1 nx1 hs
        split at h
        · cases h
        · rename_i q' r hr
          simp only [Option.some.injEq, Prod.mk.injEq] at h
          obtain ⟨rfl, rfl⟩ := h
          obtain ⟨h1, h2⟩ := obAnd_iff hp
          exact WO.step ho hs h1 (arun_sound n hr h2 k)

/-- n operations of a region, by the kernel; then what is kept. -/
theorem WO.run {P N ops Q} (n nx : Nat) (live ids : List Nat) {l l' : List Nat} {st st' : ASt} {p : Ob}
    (h : (arun P N ops n l st nx).bind (fun r => (Abs.can N r.2.2.1 live ids).map fun s => (r.1, r.2.1, s)) = some (p, l', st')) (hp : ob p) (k : WO P N ops l' st' Q) : WO P N ops l st Q := by
  cases hr : arun P N ops n l st nx with
  | none => simp [hr] at h
  | some r =>
    obtain ⟨q, l1, st1, nx1⟩ := r
    simp only [hr, Option.bind_some] at h
    cases hs : Abs.can N st1 live ids with
    | none => simp [hs] at h
    | some s =>
      simp only [hs, Option.map_some, Option.some.injEq, Prod.mk.injEq] at h
      obtain ⟨rfl, rfl, rfl⟩ := h
      exact arun_sound n hr hp (WO.can live ids hs k)

/-! ### Code -/
def thenQ (P : Program) (N : Nat) (c : Code) (Q : Exit → ASt → Prop) : Exit → ASt → Prop
  | .normal, st => WPA P N c st Q
  | e, st => Q e st
def blockQ (id : Nat) (Q : Exit → ASt → Prop) : Exit → ASt → Prop
  | .exit id', st => if id' = id then Q .normal st else Q (.exit id') st
  | e, st => Q e st

theorem WPA.mono {P N c st} {Q Q' : Exit → ASt → Prop} (h : WPA P N c st Q) (hq : ∀ e st, Q e st → Q' e st) : WPA P N c st Q' :=
  fun E τ S a w hE hc => wp_mono (h E τ S a w hE hc) fun e _ _ ⟨τ, S, st, h1, h2⟩ => ⟨τ, S, st, hq e st h1, h2⟩

theorem WPA.seq {P N a b st Q} (h : WPA P N a st (thenQ P N b Q)) : WPA P N (.seq a b) st Q := by
  intro E τ S ac w hE hc
  refine wp_seq (wp_mono (h E τ S ac w hE hc) fun e a' w' ⟨τ', S', st', h1, h2⟩ => ?_)
  cases e with
  | normal => exact h1 E τ' S' a' w' hE h2
  | exit i => exact ⟨τ', S', st', h1, h2⟩
  | goto i => exact ⟨τ', S', st', h1, h2⟩
  | ret => exact ⟨τ', S', st', h1, h2⟩
  | panic c => exact ⟨τ', S', st', h1, h2⟩
  | outgrown => exact ⟨τ', S', st', h1, h2⟩

theorem WPA.region {P N id ops st Q} (h : WO P N ops (List.range ops.size) st Q) : WPA P N (.region id ops false) st Q :=
  fun E τ S a w hE hc => wp_region (h E τ S a w hE hc)
theorem WO.nil {P N ops st Q} (h : Q .normal st) : WO P N ops [] st Q :=
  fun _ τ S _ _ _ hc => ⟨τ, S, st, h, hc⟩
theorem WO.nil' {P N ops st c Q} (h : WPA P N c st Q) : WO P N ops [] st (thenQ P N c Q) := WO.nil h
theorem WPA.skip {P N st Q} (h : Q .normal st) : WPA P N .skip st Q :=
  fun _ τ S _ _ _ hc => wp_skip ⟨τ, S, st, h, hc⟩
theorem WPA.ret {P N st Q} (h : Q .ret st) : WPA P N .ret st Q :=
  fun _ τ S _ _ _ hc => wp_ret ⟨τ, S, st, h, hc⟩
theorem WPA.exit {P N id st Q} (h : Q (.exit id) st) : WPA P N (.exit id) st Q :=
  fun _ τ S _ _ _ hc => wp_exit ⟨τ, S, st, h, hc⟩
theorem WPA.block {P N id c st Q} (h : WPA P N c st (blockQ id Q)) : WPA P N (.block id c) st Q := by
  intro E τ S ac w hE hc
  refine wp_block (wp_mono (h E τ S ac w hE hc) fun e a' w' ⟨τ', S', st', h1, h2⟩ => ?_)
  cases e with
  | exit i =>
    simp only [Exit.inBlock, blockQ] at h1 ⊢
    split
    · rename_i hi; rw [if_pos hi] at h1; exact ⟨τ', S', st', h1, h2⟩
    · rename_i hi; rw [if_neg hi] at h1; exact ⟨τ', S', st', h1, h2⟩
  | normal => exact ⟨τ', S', st', h1, h2⟩
  | goto i => exact ⟨τ', S', st', h1, h2⟩
  | ret => exact ⟨τ', S', st', h1, h2⟩
  | panic c => exact ⟨τ', S', st', h1, h2⟩
  | outgrown => exact ⟨τ', S', st', h1, h2⟩
theorem WPA.cond {P N c x y st Q} (t : Bool) (hc : opA st.fr c = xb t) (h1 : t = true → WPA P N x st Q) (h2 : t = false → WPA P N y st Q) : WPA P N (.cond c x y) st Q := by
  intro E τ S a w hE h
  have hr := h.opA c
  rw [hc] at hr
  refine wp_cond_split (t := t) hr (fun e => h1 e E τ S a w hE h) (fun e => h2 e E τ S a w hE h)

/-! ### Loops -/
/-- n rounds. -/
def rounds {σ ρ : Type} (f : σ → Option (σ ⊕ ρ)) : Nat → σ → Option ρ
  | 0, _ => none
  | n + 1, s => match f s with
    | none => none
    | some (.inl s') => rounds f n s'
    | some (.inr r) => some r
open Classical in
noncomputable def loop {σ ρ : Type} (f : σ → Option (σ ⊕ ρ)) (s : σ) : Option ρ :=
  if h : ∃ n r, rounds f n s = some r then some (Classical.choose (Classical.choose_spec h)) else none
theorem rounds_mono {σ ρ : Type} (f : σ → Option (σ ⊕ ρ)) : ∀ (n m : Nat) (s : σ) (r : ρ), rounds f n s = some r → n ≤ m → rounds f m s = some r
  | 0, _, _, _, h, _ => by simp [rounds] at h
  | n + 1, 0, _, _, _, hm => by omega
  | n + 1, m + 1, s, r, h, hm => by
    simp only [rounds] at h ⊢
    cases hf : f s with
    | none => simp [hf] at h
    | some x =>
      cases x with
      | inl s' => simp only [hf] at h ⊢; exact rounds_mono f n m s' r h (by omega)
      | inr r' => simp only [hf] at h ⊢; exact h
theorem loop_iff {σ ρ : Type} {f : σ → Option (σ ⊕ ρ)} {s : σ} {r : ρ} : loop f s = some r ↔ ∃ n, rounds f n s = some r := by
  unfold loop
  constructor
  · intro h
    split at h
    · rename_i hx
      have := Classical.choose_spec (Classical.choose_spec hx)
      simp only [Option.some.injEq] at h
      rw [h] at this
      exact ⟨_, this⟩
    · cases h
  · rintro ⟨n, hn⟩
    have hx : ∃ n r, rounds f n s = some r := ⟨n, r, hn⟩
    rw [dif_pos hx]
    have := Classical.choose_spec (Classical.choose_spec hx)
    have h1 := rounds_mono f _ (max (Classical.choose hx) n) s _ this (Nat.le_max_left _ _)
    have h2 := rounds_mono f _ (max (Classical.choose hx) n) s _ hn (Nat.le_max_right _ _)
    rw [h1] at h2
    simpa using h2
theorem loop_eq {σ ρ : Type} (f : σ → Option (σ ⊕ ρ)) (s : σ) : loop f s = match f s with
    | none => none
    | some (.inl s') => loop f s'
    | some (.inr r) => some r := by
  cases hf : f s with
  | none =>
    cases hl : loop f s with
    | none => rfl
    | some r =>
      obtain ⟨n, hn⟩ := loop_iff.1 hl
      cases n with
      | zero => simp [rounds] at hn
      | succ n => simp [rounds, hf] at hn
  | some x =>
    cases x with
    | inl s' =>
      show loop f s = loop f s'
      cases hl : loop f s' with
      | some r =>
        obtain ⟨n, hn⟩ := loop_iff.1 hl
        exact loop_iff.2 ⟨n + 1, by simp [rounds, hf, hn]⟩
      | none =>
        cases hl2 : loop f s with
        | none => rfl
        | some r =>
          obtain ⟨n, hn⟩ := loop_iff.1 hl2
          cases n with
          | zero => simp [rounds] at hn
          | succ n =>
            simp only [rounds, hf] at hn
            have := loop_iff.2 ⟨n, hn⟩
            rw [hl] at this
            cases this
    | inr r => exact loop_iff.2 ⟨1, by simp [rounds, hf]⟩

/-- A loop: the body does what f says, from each state of the shape mk. -/
theorem WPA.loop {P N c Q} {σ ρ : Type} {f : σ → Option (σ ⊕ ρ)} (mk : σ → ASt) {s : σ} {r : ρ} (hl : Abs.loop f s = some r)
    (hin : ∀ s s', f s = some (.inl s') → WPA P N c (mk s) fun e st => e = .normal ∧ st = mk s')
    (hout : ∀ s, f s = some (.inr r) → WPA P N c (mk s) fun e st => e ≠ .normal ∧ Q e st) : WPA P N (.loop c) (mk s) Q := by
  obtain ⟨n, hn⟩ := loop_iff.1 hl
  intro E τ S a w hE hc
  refine wp_loop (fun a' w' => ∃ τ' S' s' n', rounds f n' s' = some r ∧ Cfg E τ' S' (mk s') a' w') (fun a' w' => Classical.epsilon fun m => (∃ τ' S' s', rounds f m s' = some r ∧ Cfg E τ' S' (mk s') a' w') ∧ ∀ k, (∃ τ' S' s', rounds f k s' = some r ∧ Cfg E τ' S' (mk s') a' w') → m ≤ k) ⟨τ, S, s, n, hn, hc⟩ ?_
  intro a1 w1 hI
  -- the least number of rounds left
  have least : ∀ (p : Nat → Prop), (∃ n, p n) → ∃ m, p m ∧ ∀ k, p k → m ≤ k := by
    intro p ⟨n, hn⟩
    induction n using Nat.strongRecOn with
    | _ n ih =>
      by_cases h : ∃ k, k < n ∧ p k
      · obtain ⟨k, hk, hpk⟩ := h
        exact ih k hk hpk
      · exact ⟨n, hn, fun k hk => Nat.le_of_not_lt fun hlt => h ⟨k, hlt, hk⟩⟩
  have eps : ∀ a' w', (∃ τ' S' s' n', rounds f n' s' = some r ∧ Cfg E τ' S' (mk s') a' w') → ((∃ τ' S' s', rounds f (Classical.epsilon fun m => (∃ τ' S' s', rounds f m s' = some r ∧ Cfg E τ' S' (mk s') a' w') ∧ ∀ k, (∃ τ' S' s', rounds f k s' = some r ∧ Cfg E τ' S' (mk s') a' w') → m ≤ k) s' = some r ∧ Cfg E τ' S' (mk s') a' w') ∧ ∀ k, (∃ τ' S' s', rounds f k s' = some r ∧ Cfg E τ' S' (mk s') a' w') → (Classical.epsilon fun m => (∃ τ' S' s', rounds f m s' = some r ∧ Cfg E τ' S' (mk s') a' w') ∧ ∀ k, (∃ τ' S' s', rounds f k s' = some r ∧ Cfg E τ' S' (mk s') a' w') → m ≤ k) ≤ k) := by
    intro a' w' ⟨τ', S', s', n', h1, h2⟩
    exact Classical.epsilon_spec (p := fun m => (∃ τ' S' s', rounds f m s' = some r ∧ Cfg E τ' S' (mk s') a' w') ∧ ∀ k, (∃ τ' S' s', rounds f k s' = some r ∧ Cfg E τ' S' (mk s') a' w') → m ≤ k)
      (least (fun m => ∃ τ' S' s', rounds f m s' = some r ∧ Cfg E τ' S' (mk s') a' w') ⟨n', τ', S', s', h1, h2⟩)
  obtain ⟨⟨τ1, S1, s1, hr1, hc1⟩, _⟩ := eps a1 w1 hI
  generalize hm : (Classical.epsilon fun m => (∃ τ' S' s', rounds f m s' = some r ∧ Cfg E τ' S' (mk s') a1 w1) ∧ ∀ k, (∃ τ' S' s', rounds f k s' = some r ∧ Cfg E τ' S' (mk s') a1 w1) → m ≤ k) = m at *
  cases m with
  | zero => simp [rounds] at hr1
  | succ m =>
    simp only [rounds] at hr1
    cases hf : f s1 with
    | none => simp [hf] at hr1
    | some x =>
      cases x with
      | inl s2 =>
        simp only [hf] at hr1
        refine wp_mono (hin s1 s2 hf E τ1 S1 a1 w1 hE hc1) fun e a2 w2 ⟨τ2, S2, st2, ⟨he, hst⟩, hc2⟩ => ?_
        subst he hst
        refine ⟨⟨τ2, S2, s2, m, hr1, hc2⟩, ?_⟩
        have := (eps a2 w2 ⟨τ2, S2, s2, m, hr1, hc2⟩).2 m ⟨τ2, S2, s2, hr1, hc2⟩
        exact Nat.lt_succ_of_le this
      | inr r2 =>
        simp only [hf, Option.some.injEq] at hr1
        subst hr1
        refine wp_mono (hout s1 hf E τ1 S1 a1 w1 hE hc1) fun e a2 w2 ⟨τ2, S2, st2, ⟨he, hq⟩, hc2⟩ => ?_
        cases e with
        | normal => exact absurd rfl he
        | exit i => exact ⟨τ2, S2, st2, hq, hc2⟩
        | goto i => exact ⟨τ2, S2, st2, hq, hc2⟩
        | ret => exact ⟨τ2, S2, st2, hq, hc2⟩
        | panic c => exact ⟨τ2, S2, st2, hq, hc2⟩
        | outgrown => exact ⟨τ2, S2, st2, hq, hc2⟩

/-! ### Joins -/
/-- Where a piece of code may end: behind it (inl), or elsewhere (inr). -/
def loopQ {σ ρ : Type} (mk : σ → ASt) (Q : ρ → Exit → ASt → Prop) : σ ⊕ ρ → Exit → ASt → Prop
  | .inl s, e, st => e = .normal ∧ st = mk s
  | .inr r, e, st => e ≠ .normal ∧ Q r e st
/-- The same of a block: behind it, also by an exit of its own. -/
def brQ {σ ρ : Type} (id : Nat) (mk : σ → ASt) (Q : ρ → Exit → ASt → Prop) : σ ⊕ ρ → Exit → ASt → Prop
  | .inl s, e, st => (e = .normal ∨ e = .exit id) ∧ st = mk s
  | .inr r, e, st => (e ≠ .normal ∧ e ≠ .exit id) ∧ Q r e st

theorem loopQ.fall {σ ρ : Type} {mk : σ → ASt} {Q : ρ → Exit → ASt → Prop} (s : σ) {st : ASt} (h : st = mk s) : loopQ mk Q (.inl s) .normal st := ⟨rfl, h⟩
theorem loopQ.ret {σ ρ : Type} {mk : σ → ASt} {Q : ρ → Exit → ASt → Prop} {r : ρ} {st : ASt} (h : Q r .ret st) : loopQ mk Q (.inr r) .ret st := ⟨by simp, h⟩
theorem loopQ.exit {σ ρ : Type} {mk : σ → ASt} {Q : ρ → Exit → ASt → Prop} {r : ρ} {i : Nat} {st : ASt} (h : Q r (.exit i) st) : loopQ mk Q (.inr r) (.exit i) st := ⟨by simp, h⟩
theorem brQ.fall {σ ρ : Type} {id : Nat} {mk : σ → ASt} {Q : ρ → Exit → ASt → Prop} (s : σ) {st : ASt} (h : st = mk s) : brQ id mk Q (.inl s) .normal st := ⟨.inl rfl, h⟩
theorem brQ.own {σ ρ : Type} {id : Nat} {mk : σ → ASt} {Q : ρ → Exit → ASt → Prop} (s : σ) {st : ASt} (h : st = mk s) : brQ id mk Q (.inl s) (.exit id) st := ⟨.inr rfl, h⟩
theorem brQ.ret {σ ρ : Type} {id : Nat} {mk : σ → ASt} {Q : ρ → Exit → ASt → Prop} {r : ρ} {st : ASt} (h : Q r .ret st) : brQ id mk Q (.inr r) .ret st := ⟨⟨by simp, by simp⟩, h⟩
theorem brQ.exit {σ ρ : Type} {id : Nat} {mk : σ → ASt} {Q : ρ → Exit → ASt → Prop} {r : ρ} {i : Nat} {st : ASt} (hi : (i == id) = false) (h : Q r (.exit i) st) : brQ id mk Q (.inr r) (.exit i) st :=
  ⟨⟨by simp, by simpa using hi⟩, h⟩

theorem WPA.blockJ {P N id c st} {σ ρ : Type} {mk : σ → ASt} {Q : ρ → Exit → ASt → Prop} {x : σ ⊕ ρ} (h : WPA P N c st (brQ id mk Q x)) : WPA P N (.block id c) st (loopQ mk Q x) := by
  refine WPA.block (h.mono fun e st' hq => ?_)
  cases x with
  | inl s =>
    obtain ⟨he, hst⟩ := hq
    rcases he with rfl | rfl
    · exact ⟨rfl, hst⟩
    · show (if id = id then _ else _)
      rw [if_pos rfl]
      exact ⟨rfl, hst⟩
  | inr r =>
    obtain ⟨⟨h1, h2⟩, hq⟩ := hq
    cases e with
    | exit i =>
      show (if i = id then _ else _)
      rw [if_neg (fun e => h2 (by rw [e]))]
      exact ⟨h1, hq⟩
    | normal => exact absurd rfl h1
    | goto i => exact ⟨h1, hq⟩
    | ret => exact ⟨h1, hq⟩
    | panic c => exact ⟨h1, hq⟩
    | outgrown => exact ⟨h1, hq⟩

theorem WPA.loopJ {P N c} {σ ρ : Type} {f : σ → Option (σ ⊕ ρ)} {Q : ρ → Exit → ASt → Prop} (mk : σ → ASt) {s : σ} {r : ρ} (hl : Abs.loop f s = some r)
    (hb : ∀ s x, f s = some x → WPA P N c (mk s) (loopQ mk Q x)) : WPA P N (.loop c) (mk s) (Q r) :=
  WPA.loop mk hl (fun s s' h => (hb s _ h).mono fun _ _ h => h) (fun s h => (hb s _ h).mono fun _ _ h => h)

/-- A piece, then what stands behind it. -/
def bindE {σ ρ : Type} (m : Option (σ ⊕ ρ)) (k : σ → Option ρ) : Option ρ :=
  match m with
  | none => none
  | some (.inl s) => k s
  | some (.inr r) => some r
theorem WPA.seqJ {P N a b st} {σ ρ : Type} {m : Option (σ ⊕ ρ)} {k : σ → Option ρ} {Q : ρ → Exit → ASt → Prop} (mk : σ → ASt) {r : ρ} (h : bindE m k = some r)
    (ha : ∀ x, m = some x → WPA P N a st (loopQ mk Q x)) (hb : ∀ s, k s = some r → WPA P N b (mk s) (Q r)) : WPA P N (.seq a b) st (Q r) := by
  unfold bindE at h
  split at h
  · cases h
  · refine WPA.seq ((ha _ rfl).mono fun e st' hq => ?_)
    obtain ⟨rfl, rfl⟩ := hq
    exact hb _ h
  · simp only [Option.some.injEq] at h
    subst h
    refine WPA.seq ((ha _ rfl).mono fun e st' hq => ?_)
    obtain ⟨he, hq⟩ := hq
    cases e with
    | normal => exact absurd rfl he
    | exit i => exact hq
    | goto i => exact hq
    | ret => exact hq
    | panic c => exact hq
    | outgrown => exact hq

/-! ### The words of the plain functions -/
def gd {α : Type} (p : Prop) [Decidable p] (m : Option α) : Option α := if p then m else none
theorem gd_inv {α : Type} {p : Prop} [Decidable p] {m : Option α} {x : α} (h : gd p m = some x) : p ∧ m = some x := by
  unfold gd at h
  split at h
  · rename_i hp; exact ⟨hp, h⟩
  · cases h
theorem gd_pos {α : Type} {p : Prop} [Decidable p] {m : Option α} (h : p) : gd p m = m := if_pos h
theorem bind_inv {α β : Type} {m : Option α} {k : α → Option β} {x : β} (h : m.bind k = some x) : ∃ r, m = some r ∧ k r = some x := by
  cases m with
  | none => cases h
  | some r => exact ⟨r, rfl, h⟩
theorem cond_t {α : Type} {c : Bool} {a b : Option α} {x : α} (hc : c = true) (h : cond c a b = some x) : a = some x := by subst hc; exact h
theorem cond_f {α : Type} {c : Bool} {a b : Option α} {x : α} (hc : c = false) (h : cond c a b = some x) : b = some x := by subst hc; exact h

end Go.Abs
