/- DERIVED. Own theory, part 23: rows of rows: what stands beside a state; certificates over both. -/
import Derived.Test.YtlhiaclmbegaiaaGreatA22
set_option linter.unusedVariables false
set_option linter.unusedSimpArgs false
namespace Go.Abs

def fSl {α : Type} [Inhabited α] (sz : Nat) (f : α → Nat → DV) : List α → Nat → DV := fun l _ => .ro sz l.length (gT f l)

/-- What stands beside a state: nothing, or the rows whose slices a row holds: their values (vs), lengths, elements; one of them (hole) may be lent out. -/
inductive SD where
  | no
  | rr (e2 sz2 n : Nat) (vs : Nat → Value) (len : Nat → Nat) (get : Nat → Nat → Nat → DV) (hole : Option Nat)
def SD.vs : SD → Nat → Value
  | .no, _ => undef
  | .rr _ _ _ vs _ _ _, i => vs i
def rrT {α : Type} [Inhabited α] (f : α → Nat → DV) (e2 sz2 : Nat) (vs : Nat → Value) (LL : List (List α)) (hole : Option Nat) : SD :=
  .rr e2 sz2 LL.length vs (fun i => (LL.getD i []).length) (fun i => gT f (LL.getD i [])) hole
def Side (E : Env) (τ : Nat → Value) (S : Nat → Prop) (st : ASt) (w : World) : SD → Prop
  | .no => True
  | .rr e2 sz2 n vs len get hole =>
    (∀ i, i < n → hole ≠ some i → RelCt τ S w (vs i) (.rows e2 sz2 (len i) (get i)) ∧ ∀ b, (vs i).ownBlock = some b → ¬ S b ∧ (∀ p ∈ st.hp, (τ p.1).ownBlock ≠ some b) ∧ (E.O b ∨ E.w0.heap.size ≤ b)) ∧
    (∀ i j, i < n → j < n → hole ≠ some i → hole ≠ some j → i ≠ j → ∀ b, (vs i).ownBlock = some b → (vs j).ownBlock ≠ some b)
def Post2 (E : Env) (Q : Exit → ASt → SD → Prop) : Exit → Act → World → Prop :=
  fun e a w => ∃ τ S st sd, Q e st sd ∧ Cfg E τ S st a w ∧ Side E τ S st w sd
abbrev Env.at (E : Env) (τ : Nat → Value) (S : Nat → Prop) (st : ASt) (w : World) : Env := ⟨w, OB τ st.hp, S, E.N, τ⟩

theorem Cfg.rebase {E τ S st a w} (h : Cfg E τ S st a w) : Cfg (E.at τ S st w) τ S st a w :=
  ⟨h.df, h.sz, h.fr, h.hp, fun p hp b hb => .inl ⟨p, hp, hb⟩, fun b hb => .inl hb, ⟨rfl, rfl, rfl, Nat.le_refl _, fun _ _ _ => rfl⟩, fun _ _ => rfl⟩
/-- More blocks are read-only. -/
theorem Cfg.moreS {E τ S st a w} (h : Cfg E τ S st a w) (S2 : Nat → Prop) (h1 : ∀ b, S2 b → b < w.heap.size) (h2 : ∀ b, S2 b → ∀ p ∈ st.hp, (τ p.1).ownBlock ≠ some b) (h3 : ∀ b, S2 b → E.S0 b ∨ E.O b ∨ E.w0.heap.size ≤ b) : Cfg E τ (fun b => S b ∨ S2 b) st a w := by
  have hs : Stays τ τ S (fun b => S b ∨ S2 b) w w := ⟨fun b hb => .inl hb, fun _ _ => rfl⟩
  refine ⟨h.df, h.sz, fun p hp => ?_, ⟨fun p hp => ?_, h.hp.sep, ?_, ?_⟩, h.own, ?_, h.keep, h.base⟩
  · obtain ⟨y, hy, hr⟩ := h.fr p hp
    exact ⟨y, hy, hr.mono hs fun _ _ => rfl⟩
  · exact (h.hp.ct p hp).mono hs (fun _ _ => rfl) (fun _ _ => rfl)
  · rintro b (hb | hb)
    · exact h.hp.s b hb
    · exact h1 b hb
  · rintro b (hb | hb) p hp
    · exact h.hp.ss b hb p hp
    · exact h2 b hb p hp
  · rintro b (hb | hb)
    · exact h.so b hb
    · exact h3 b hb
theorem Cfg.back {E τ S st a w τ' S' st' a' w' sd} (h : Cfg E τ S st a w) (hs : Side E τ S st w sd) (h' : Cfg (E.at τ S st w) τ' S' st' a' w') : Cfg E τ' (fun b => S' b ∨ S b) st' a' w' ∧ Side E τ' (fun b => S' b ∨ S b) st' w' sd := by
  have hSO : ∀ b, S b → ¬ OB τ st.hp b := fun b hb ⟨p, hp, hpb⟩ => h.hp.ss b hb p hp hpb
  have hOE : ∀ b, OB τ st.hp b → E.O b ∨ E.w0.heap.size ≤ b := fun b ⟨p, hp, hpb⟩ => h.own p hp b hpb
  have hC : Cfg E τ' S' st' a' w' := by
    refine ⟨h'.df, h'.sz, h'.fr, h'.hp, fun p hp b hb => ?_, fun b hb => ?_, ?_, fun i hi => (h'.base i hi).trans (h.base i hi)⟩
    · rcases h'.own p hp b hb with h1 | h1
      · exact hOE b h1
      · exact .inr (Nat.le_trans h.keep.size h1)
    · rcases h'.so b hb with h1 | h1 | h1
      · exact h.so b h1
      · exact .inr (hOE b h1)
      · exact .inr (.inr (Nat.le_trans h.keep.size h1))
    · refine ⟨h'.keep.os.trans h.keep.os, h'.keep.tape.trans h.keep.tape, h'.keep.output.trans h.keep.output, Nat.le_trans h.keep.size h'.keep.size, fun b hb hO => ?_⟩
      rw [h'.keep.block b (Nat.lt_of_lt_of_le hb h.keep.size) (fun ho => (hOE b ho).elim hO (fun h => by omega))]
      exact h.keep.block b hb hO
  have hC2 := hC.moreS S (fun b hb => Nat.lt_of_lt_of_le (h.hp.s b hb) h'.keep.size) (fun b hb p hp hpb => by
    rcases h'.own p hp b hpb with h1 | h1
    · exact hSO b hb h1
    · exact Nat.lt_irrefl _ (Nat.lt_of_lt_of_le (h.hp.s b hb) h1)) h.so
  refine ⟨hC2, ?_⟩
  cases sd with
  | no => trivial
  | rr e2 sz2 n vs len get hole =>
    obtain ⟨s1, s2⟩ := hs
    refine ⟨fun i hi hh => ?_, s2⟩
    obtain ⟨r1, r2⟩ := s1 i hi hh
    have hun : ∀ b, (vs i).ownBlock = some b → b < w.heap.size ∧ ¬ OB τ st.hp b := fun b hb => ⟨r1.lt b hb, fun ⟨p, hp, hpb⟩ => (r2 b hb).2.1 p hp hpb⟩
    have hst : Stays τ τ' S (fun b => S' b ∨ S b) w w' := ⟨fun b hb => .inr hb, fun b hb => h'.keep.block b (h.hp.s b hb) (hSO b hb)⟩
    refine ⟨r1.mono hst (fun id hid => by simp [Ct.has] at hid) (fun b hb => h'.keep.block b (hun b hb).1 (hun b hb).2), fun b hb => ⟨?_, fun p hp hpb => ?_, (r2 b hb).2.2⟩⟩
    · rintro (h1 | h1)
      · rcases h'.so b h1 with h1 | h1 | h1
        · exact (r2 b hb).1 h1
        · exact (hun b hb).2 h1
        · exact Nat.lt_irrefl _ (Nat.lt_of_lt_of_le (hun b hb).1 h1)
      · exact (r2 b hb).1 h1
    · rcases h'.own p hp b hpb with h1 | h1
      · exact (hun b hb).2 h1
      · exact Nat.lt_irrefl _ (Nat.lt_of_lt_of_le (hun b hb).1 h1)

def W2 (P : Program) (N : Nat) : Cur → (Exit → ASt → SD → Prop) → ASt → SD → Prop
  | .code c, Q, st, sd => ∀ E τ S a w, E.N = N → Cfg E τ S st a w → Side E τ S st w sd → c.wp P (Post2 E Q) a w
  | .ops o l, Q, st, sd => ∀ E τ S a w, E.N = N → Cfg E τ S st a w → Side E τ S st w sd → wpOps P o (Post2 E Q) l a w
  | .at e, Q, st, sd => ∀ E τ S a w, E.N = N → Cfg E τ S st a w → Side E τ S st w sd → Post2 E Q e a w
theorem W2.sim {P N} {c : Cur} {Q : Exit → ASt → SD → Prop} {st st' : ASt} {sd sd' : SD} (h : ∀ E τ S a w, E.N = N → Cfg E τ S st a w → Side E τ S st w sd → ∃ τ' S', Cfg E τ' S' st' a w ∧ Side E τ' S' st' w sd') (k : W2 P N c Q st' sd') : W2 P N c Q st sd := by
  cases c <;> exact fun E τ S a w hE hc hs => by
    obtain ⟨τ', S', hc', hs'⟩ := h E τ S a w hE hc hs
    exact k E τ' S' a w hE hc' hs'
theorem W2.simE {P N} {c : Cur} {Q : Exit → ASt → SD → Prop} {st : ASt} {sd : SD} {ι : Type} {G : ι → Prop} {st' : ι → ASt} {sd' : ι → SD} (h : ∀ E τ S a w, E.N = N → Cfg E τ S st a w → Side E τ S st w sd → ∃ u, G u ∧ ∃ τ' S', Cfg E τ' S' (st' u) a w ∧ Side E τ' S' (st' u) w (sd' u)) (k : ∀ u, G u → W2 P N c Q (st' u) (sd' u)) : W2 P N c Q st sd := by
  cases c <;> exact fun E τ S a w hE hc hs => by
    obtain ⟨u, hu, τ', S', hc', hs'⟩ := h E τ S a w hE hc hs
    exact k u hu E τ' S' a w hE hc' hs'
theorem W2.op {P N} {ops : Array Oper} {i : Nat} {l : List Nat} {Q : Exit → ASt → SD → Prop} {st st' : ASt} {sd : SD} (h : ∀ l Q, WO P N ops l st' Q → WO P N ops (i :: l) st Q) (k : W2 P N (.ops ops l) Q st' sd) : W2 P N (.ops ops (i :: l)) Q st sd := by
  intro E τ S a w hE hc hs
  have hW := h [] (fun e s => e = .normal ∧ s = st') (WO.nil ⟨rfl, rfl⟩) (E.at τ S st w) τ S a w hE hc.rebase
  have := wpOps_one (Q := Post2 E Q) (K := fun a w => wpOps P ops (Post2 E Q) l a w) hW fun τ' S' a' w' hc' => by
    obtain ⟨h1, h2⟩ := hc.back hs hc'
    exact k E _ _ a' w' hE h1 h2
  unfold wpOp at this
  unfold wpOps
  exact this
theorem W2.step {P N} (x : Step P N) {c c' : Cur} {Q : Exit → ASt → SD → Prop} {st st' : ASt} {sd : SD} (h : (x.f c st).2 = some (c', st')) (hx : (x.f c st).1.ok) (k : W2 P N c' Q st' sd) : W2 P N c Q st sd := by
  rcases x.ok c st c' st' h hx with ⟨ops, i, l, rfl, rfl, hh⟩ | ⟨id, ops, rfl, rfl, hh⟩ | ⟨rfl, hh⟩
  · exact W2.op hh k
  · intro E τ S a w hE hc hs
    refine wp_mono (hh (fun e s => e = .normal ∧ s = st') (WO.nil ⟨rfl, rfl⟩) (E.at τ S st w) τ S a w hE hc.rebase) fun e a' w' ⟨τ', S', st2, ⟨he, hst⟩, hc'⟩ => ?_
    subst he hst
    obtain ⟨h1, h2⟩ := hc.back hs hc'
    exact k E _ _ a' w' hE h1 h2
  · refine W2.sim (fun E τ S a w hE hc hs => ?_) k
    obtain ⟨τ', S', hc'⟩ := hh (E.at τ S st w) τ S a w hE hc.rebase
    obtain ⟨h1, h2⟩ := hc.back hs hc'
    exact ⟨_, _, h1, h2⟩

inductive Ks2 : Type → Type 1 where
  | fn {ρ : Type} (fn : Func) (ids : List Nat) (res : ρ → AV) (hp : ρ → List (Nat × Ct)) : Ks2 ρ
  | seq {ρ : Type} (c : Code) (K : Ks2 ρ) : Ks2 ρ
  | blk {ρ : Type} (id : Nat) (K : Ks2 ρ) : Ks2 ρ
  | jn {σ ρ : Type} (mk : σ → (Nat → Value) → ASt × SD) (K : Ks2 ρ) : Ks2 (σ ⊕ ρ)
def kQ2 (P : Program) (N : Nat) : {ρ : Type} → Ks2 ρ → ρ → Exit → ASt → SD → Prop
  | _, .fn fn ids res hp, r => fun e st _ => retQ P fn ids (res r) (hp r) e st
  | _, .seq c K, r => fun e st sd => match e with
    | .normal => W2 P N (.code c) (kQ2 P N K r) st sd
    | e => kQ2 P N K r e st sd
  | _, .blk id K, r => fun e st sd => match e with
    | .exit i => if i = id then kQ2 P N K r .normal st sd else kQ2 P N K r (.exit i) st sd
    | e => kQ2 P N K r e st sd
  | _, .jn mk K, x => fun e st sd => match x with
    | .inl s => e = .normal ∧ ∃ g, (st, sd) = mk s g
    | .inr v => e ≠ .normal ∧ kQ2 P N K v e st sd
def mv2 {ρ : Type} : Cur → Ks2 ρ → Option (Cur × Ks2 ρ)
  | .code (.seq a b), K => some (.code a, .seq b K)
  | .code (.block id c), K => some (.code c, .blk id K)
  | .code (.region _ ops false), K => some (.ops ops (List.range ops.size), K)
  | .code .skip, K => some (.at .normal, K)
  | .code .ret, K => some (.at .ret, K)
  | .code (.exit i), K => some (.at (.exit i), K)
  | .ops _ [], K => some (.at .normal, K)
  | .at .normal, .seq c K => some (.code c, K)
  | .at .normal, .blk _ K => some (.at .normal, K)
  | .at (.exit i), .seq _ K => some (.at (.exit i), K)
  | .at (.exit i), .blk j K => if i = j then some (.at .normal, K) else some (.at (.exit i), K)
  | .at .ret, .seq _ K => some (.at .ret, K)
  | .at .ret, .blk _ K => some (.at .ret, K)
  | _, _ => none
def mvs2 {ρ : Type} : Nat → Cur → Ks2 ρ → Option (Cur × Ks2 ρ)
  | 0, c, K => some (c, K)
  | n + 1, c, K => match mv2 c K with
    | some (c', K') => mvs2 n c' K'
    | none => none
theorem Post2.mono {E : Env} {Q Q' : Exit → ASt → SD → Prop} {e e' : Exit} {a : Act} {w : World} (h : Post2 E Q e a w) (hq : ∀ st sd, Q e st sd → Q' e' st sd) : Post2 E Q' e' a w := by
  obtain ⟨τ, S, st, sd, h1, h2⟩ := h
  exact ⟨τ, S, st, sd, hq st sd h1, h2⟩
theorem mv2_sound {P : Program} {N : Nat} {ρ : Type} {c c' : Cur} {K K' : Ks2 ρ} {st : ASt} {sd : SD} {r : ρ} (h : mv2 c K = some (c', K')) (k : W2 P N c' (kQ2 P N K' r) st sd) : W2 P N c (kQ2 P N K r) st sd := by
  unfold mv2 at h
  split at h
  case h_11 =>
    split at h
    · rename_i hij
      cases h
      subst hij
      exact fun E τ S a w hE hc hs => (k E τ S a w hE hc hs).mono fun st sd h => by simp only [kQ2, if_pos]; exact h
    · rename_i hij
      cases h
      exact fun E τ S a w hE hc hs => (k E τ S a w hE hc hs).mono fun st sd h => by simp only [kQ2, if_neg hij]; exact h
  all_goals cases h
  · intro E τ S a w hE hc hs
    refine wp_seq (wp_mono (k E τ S a w hE hc hs) fun e a' w' ⟨τ', S', st', sd', h1, h2, h3⟩ => ?_)
    cases e with
    | normal => exact h1 E τ' S' a' w' hE h2 h3
    | exit i => exact ⟨τ', S', st', sd', h1, h2, h3⟩
    | goto i => exact ⟨τ', S', st', sd', h1, h2, h3⟩
    | ret => exact ⟨τ', S', st', sd', h1, h2, h3⟩
    | panic c => exact ⟨τ', S', st', sd', h1, h2, h3⟩
    | outgrown => exact ⟨τ', S', st', sd', h1, h2, h3⟩
  · intro E τ S a w hE hc hs
    refine wp_block (wp_mono (k E τ S a w hE hc hs) fun e a' w' ⟨τ', S', st', sd', h1, h2, h3⟩ => ?_)
    cases e with
    | exit i =>
      simp only [Exit.inBlock, kQ2] at h1 ⊢
      split
      · rename_i hi; rw [if_pos hi] at h1; exact ⟨τ', S', st', sd', h1, h2, h3⟩
      · rename_i hi; rw [if_neg hi] at h1; exact ⟨τ', S', st', sd', h1, h2, h3⟩
    | normal => exact ⟨τ', S', st', sd', h1, h2, h3⟩
    | goto i => exact ⟨τ', S', st', sd', h1, h2, h3⟩
    | ret => exact ⟨τ', S', st', sd', h1, h2, h3⟩
    | panic c => exact ⟨τ', S', st', sd', h1, h2, h3⟩
    | outgrown => exact ⟨τ', S', st', sd', h1, h2, h3⟩
  · exact fun E τ S a w hE hc hs => wp_region (k E τ S a w hE hc hs)
  · exact fun E τ S a w hE hc hs => wp_skip (k E τ S a w hE hc hs)
  · exact fun E τ S a w hE hc hs => wp_ret (k E τ S a w hE hc hs)
  · exact fun E τ S a w hE hc hs => wp_exit (k E τ S a w hE hc hs)
  · exact fun E τ S a w hE hc hs => k E τ S a w hE hc hs
  · exact fun E τ S a w hE hc hs => ⟨τ, S, st, sd, k, hc, hs⟩
  all_goals exact fun E τ S a w hE hc hs => (k E τ S a w hE hc hs).mono fun st sd h => h
theorem mvs2_sound {P : Program} {N : Nat} {ρ : Type} : ∀ {n : Nat} {c c' : Cur} {K K' : Ks2 ρ} {st : ASt} {sd : SD} {r : ρ}, mvs2 n c K = some (c', K') → W2 P N c' (kQ2 P N K' r) st sd → W2 P N c (kQ2 P N K r) st sd
  | 0, c, c', K, K', st, sd, r, h, k => by
    simp only [mvs2, Option.some.injEq, Prod.mk.injEq] at h
    obtain ⟨rfl, rfl⟩ := h
    exact k
  | n + 1, c, c', K, K', st, sd, r, h, k => by
    simp only [mvs2] at h
    split at h
    · rename_i c1 K1 h1
      exact mv2_sound h1 (mvs2_sound h k)
    · cases h

/-! ### Certificates over both -/
abbrev gh0 : Nat → Value := fun _ => undef
structure Cert2 (P : Program) (N : Nat) (ρ : Type) where
  f : Cur → Ks2 ρ → ASt → SD → X × Option ρ
  ok : ∀ c K st sd, (f c K st sd).1.ok → ∀ r, (f c K st sd).2 = some r → W2 P N c (kQ2 P N K r) st sd
section
variable {P : Program} {N : Nat} {ρ : Type}
def Cert2.s (x : Step P N) (z : Cert2 P N ρ) : Cert2 P N ρ where
  f c K st sd := match x.f c st with
    | (y, some (c', st')) => (.and y (z.f c' K st' sd).1, (z.f c' K st' sd).2)
    | _ => badX
  ok c K st sd hx r hr := by
    split at hx
    · rename_i y c' st' he
      simp only [he] at hr
      obtain ⟨h1, h2⟩ := hx
      exact W2.step x (by rw [he]) (by rw [he]; exact h1) (z.ok _ _ _ _ h2 r hr)
    · exact hx.elim
def Cert2.m (k : Nat) (z : Cert2 P N ρ) : Cert2 P N ρ where
  f c K st sd := match mvs2 k c K with
    | some (c', K') => z.f c' K' st sd
    | _ => badX
  ok c K st sd hx r hr := by
    split at hx
    · rename_i c' K' hm
      simp only [hm] at hr
      exact mvs2_sound hm (z.ok _ _ _ _ hx r hr)
    · exact hx.elim
theorem W2.run {ops : Array Oper} {Q : Exit → ASt → SD → Prop} {sd : SD} : ∀ (n : Nat) {l l' : List Nat} {st st' : ASt} {nx nx' : Nat} {p : Ob}, arun P N ops n l st nx = some (p, l', st', nx') → ob p → W2 P N (.ops ops l') Q st' sd → W2 P N (.ops ops l) Q st sd
  | 0, l, l', st, st', nx, nx', p, h, _, k => by
    simp only [arun, Option.some.injEq, Prod.mk.injEq] at h
    obtain ⟨_, rfl, rfl, _⟩ := h
    exact k
  | n + 1, [], l', st, st', nx, nx', p, h, _, k => by
    simp only [arun, Option.some.injEq, Prod.mk.injEq] at h
    obtain ⟨_, rfl, rfl, _⟩ := h
    exact k
  | n + 1, i :: l, l', st, st', nx, nx', p, h, hp, k => by
    simp only [arun] at h
    split at h
    · cases h
    · rename_i o ho
      split at h
      · cases h
      · rename_i q st1 nx1 hs
        split at h
        · cases h
        · rename_i q' r hr
          simp only [Option.some.injEq, Prod.mk.injEq] at h
          obtain ⟨rfl, rfl⟩ := h
          obtain ⟨h1, h2⟩ := obAnd_iff hp
          exact W2.op (fun l Q kk => WO.step ho hs h1 kk) (W2.run n hr h2 k)
theorem W2.can {c : Cur} {Q : Exit → ASt → SD → Prop} {st st' : ASt} {sd : SD} {live ids : List Nat} (h : can N st live ids = some st') (k : W2 P N c Q st' sd) : W2 P N c Q st sd :=
  W2.sim (fun E τ S a w hE hc hs => by
    obtain ⟨h1, h2⟩ := hc.back hs (hc.rebase.can (st' := st') (hE ▸ h))
    exact ⟨_, _, h1, h2⟩) k
def Cert2.rp (k n nx : Nat) (live ids : List Nat) (p : Ob) (hp : ob p) (z : Cert2 P N ρ) : Cert2 P N ρ where
  f c K st sd := match mvs2 k c K with
    | some (.ops o l, K') => match arun P N o n l st nx with
      | some (q, l', st1, _) => match can N st1 live ids with
        | some s => (.and (.eq q p) (z.f (.ops o l') K' s sd).1, (z.f (.ops o l') K' s sd).2)
        | none => badX
      | none => badX
    | _ => badX
  ok c K st sd hx r hr := by
    split at hx
    · rename_i o l K' hm
      split at hx
      · rename_i q l' st1 nx1 ha
        split at hx
        · rename_i s hs
          simp only [hm, ha, hs] at hr
          obtain ⟨h1, h2⟩ := hx
          exact mvs2_sound hm (W2.run n ha (by rw [show q = p from h1]; exact hp) (W2.can hs (z.ok _ _ _ _ h2 r hr)))
        · exact hx.elim
      · exact hx.elim
    · exact hx.elim
def Cert2.r (k n nx : Nat) (live ids : List Nat) (z : Cert2 P N ρ) : Cert2 P N ρ := .rp k n nx live ids none trivial z
def Cert2.gd (q : Prop) [Decidable q] (z : q → Cert2 P N ρ) : Cert2 P N ρ where
  f c K st sd := (.imp fun h : q => ((z h).f c K st sd).1, gdp q fun h => ((z h).f c K st sd).2)
  ok c K st sd hx r hr := by
    unfold gdp at hr
    split at hr
    · rename_i h; exact (z h).ok _ _ _ _ (hx h) r hr
    · cases hr
def Cert2.bs {α : Type} (x : α) (ts : List Nat) (av : α → AV) (z : α → Cert2 P N ρ) : Cert2 P N ρ where
  f c K st sd := (.and (.eq st ⟨setF ts (av x) st.fr, st.hp⟩) (.all fun y => ((z y).f c K ⟨setF ts (av y) st.fr, st.hp⟩ sd).1), Abs.bd x fun y => ((z y).f c K ⟨setF ts (av y) st.fr, st.hp⟩ sd).2)
  ok c K st sd hx r hr := by
    have h1 : st = ⟨setF ts (av x) st.fr, st.hp⟩ := hx.1
    have := (z x).ok c K _ sd (hx.2 x) r hr
    rw [← h1] at this
    exact this
def Cert2.bh {α : Type} (x : α) (id : Nat) (ct : α → Ct) (z : α → Cert2 P N ρ) : Cert2 P N ρ where
  f c K st sd := (.and (.eq st ⟨st.fr, setC id (ct x) st.hp⟩) (.all fun y => ((z y).f c K ⟨st.fr, setC id (ct y) st.hp⟩ sd).1), Abs.bd x fun y => ((z y).f c K ⟨st.fr, setC id (ct y) st.hp⟩ sd).2)
  ok c K st sd hx r hr := by
    have h1 : st = ⟨st.fr, setC id (ct x) st.hp⟩ := hx.1
    have := (z x).ok c K _ sd (hx.2 x) r hr
    rw [← h1] at this
    exact this
def Cert2.cond (k : Nat) (a b : Cert2 P N ρ) : Cert2 P N ρ where
  f c K st sd := match mvs2 k c K with
    | some (.code (.cond o x y), K') => match opA st.fr o with
      | .c (.d (.v (.bool t))) => (.and (a.f (.code x) K' st sd).1 (b.f (.code y) K' st sd).1, _root_.cond t (a.f (.code x) K' st sd).2 (b.f (.code y) K' st sd).2)
      | _ => badX
    | _ => badX
  ok c K st sd hx r hr := by
    split at hx
    · rename_i o x y K' hm
      split at hx
      · rename_i t ho
        simp only [hm, ho] at hr
        refine mvs2_sound hm fun E τ S ac w hE h hs => ?_
        have hrl := h.opA o
        rw [ho] at hrl
        exact wp_cond_split (t := t) hrl (fun e => a.ok _ _ _ _ hx.1 r (cond_t e hr) E τ S ac w hE h hs) (fun e => b.ok _ _ _ _ hx.2 r (cond_f e hr) E τ S ac w hE h hs)
      · exact hx.elim
    · exact hx.elim
noncomputable def Cert2.bind {α : Type} (m : Option α) (z : (r : α) → m = some r → Cert2 P N ρ) : Cert2 P N ρ where
  f c K st sd := (.all fun r => .imp fun h : m = some r => ((z r h).f c K st sd).1, bindp m fun r h => ((z r h).f c K st sd).2)
  ok c K st sd hx r hr := by
    obtain ⟨v, hv, hk⟩ := bindp_inv hr
    exact (z v hv).ok _ _ _ _ (hx v hv) r hk
def Cert2.sq {σ : Type} (k : Nat) (mk : σ → (Nat → Value) → ASt × SD) (a : Cert2 P N (σ ⊕ ρ)) (b : σ → (Nat → Value) → Cert2 P N ρ) : Cert2 P N ρ where
  f c K st sd := match mvs2 k c K with
    | some (.code (.seq x y), K') => (.and (a.f (.code x) (.jn mk K') st sd).1 (.all fun s => .all fun g => .and ((b s g).f (.code y) K' (mk s g).1 (mk s g).2).1 (.eq ((b s g).f (.code y) K' (mk s g).1 (mk s g).2).2 ((b s gh0).f (.code y) K' (mk s gh0).1 (mk s gh0).2).2)),
        bindE (a.f (.code x) (.jn mk K') st sd).2 fun s => ((b s gh0).f (.code y) K' (mk s gh0).1 (mk s gh0).2).2)
    | _ => badX
  ok c K st sd hx r hr := by
    split at hx
    · rename_i x y K' hm
      simp only [hm] at hr
      refine mvs2_sound hm fun E τ S ac w hE h hs => wp_seq ?_
      unfold bindE at hr
      split at hr
      · cases hr
      · rename_i s hs2
        refine wp_mono (a.ok _ _ _ _ hx.1 _ hs2 E τ S ac w hE h hs) fun e a' w' ⟨τ', S', st', sd', h1, h2, h3⟩ => ?_
        obtain ⟨rfl, g, hg⟩ := h1
        have e1 : st' = (mk s g).1 := congrArg Prod.fst hg
        have e2 : sd' = (mk s g).2 := congrArg Prod.snd hg
        subst e1 e2
        obtain ⟨h4, h5⟩ := hx.2 s g
        exact (b s g).ok _ _ _ _ h4 r (h5.trans hr) E τ' S' a' w' hE h2 h3
      · rename_i v hs2
        simp only [Option.some.injEq] at hr
        subst hr
        refine wp_mono (a.ok _ _ _ _ hx.1 _ hs2 E τ S ac w hE h hs) fun e a' w' ⟨τ', S', st', sd', h1, h2, h3⟩ => ?_
        obtain ⟨he, h1⟩ := h1
        cases e with
        | normal => exact absurd rfl he
        | exit i => exact ⟨τ', S', st', sd', h1, h2, h3⟩
        | goto i => exact ⟨τ', S', st', sd', h1, h2, h3⟩
        | ret => exact ⟨τ', S', st', sd', h1, h2, h3⟩
        | panic c => exact ⟨τ', S', st', sd', h1, h2, h3⟩
        | outgrown => exact ⟨τ', S', st', sd', h1, h2, h3⟩
    · exact hx.elim
theorem loopG {c : Code} {σ ρ : Type} {f : σ → Option (σ ⊕ ρ)} (C : σ → Act → World → Prop) (R : Exit → Act → World → Prop) {s : σ} {r : ρ} (hl : Abs.loop f s = some r)
    (hin : ∀ s s', f s = some (.inl s') → ∀ a w, C s a w → c.wp P (fun e a w => e = .normal ∧ C s' a w) a w)
    (hout : ∀ s, f s = some (.inr r) → ∀ a w, C s a w → c.wp P (fun e a w => e ≠ .normal ∧ R e a w) a w) (a : Act) (w : World) (hc : C s a w) : (Code.loop c).wp P R a w := by
  obtain ⟨n, hn⟩ := loop_iff.1 hl
  have least : ∀ (p : Nat → Prop), (∃ n, p n) → ∃ m, p m ∧ ∀ k, p k → m ≤ k := by
    intro p ⟨n, hn⟩
    induction n using Nat.strongRecOn with
    | _ n ih =>
      by_cases h : ∃ k, k < n ∧ p k
      · obtain ⟨k, hk, hpk⟩ := h
        exact ih k hk hpk
      · exact ⟨n, hn, fun k hk => Nat.le_of_not_lt fun hlt => h ⟨k, hlt, hk⟩⟩
  let I : Nat → Act → World → Prop := fun m a w => ∃ s', rounds f m s' = some r ∧ C s' a w
  let μ : Act → World → Nat := fun a w => Classical.epsilon fun m => I m a w ∧ ∀ k, I k a w → m ≤ k
  have eps : ∀ a w, (∃ m, I m a w) → I (μ a w) a w ∧ ∀ k, I k a w → μ a w ≤ k := fun a w h => Classical.epsilon_spec (p := fun m => I m a w ∧ ∀ k, I k a w → m ≤ k) (least (fun m => I m a w) h)
  refine wp_loop (fun a w => ∃ m, I m a w) μ ⟨n, s, hn, hc⟩ ?_
  intro a1 w1 hI
  obtain ⟨⟨s1, hr1, hc1⟩, _⟩ := eps a1 w1 hI
  generalize hm : μ a1 w1 = m at hr1
  cases m with
  | zero => simp [rounds] at hr1
  | succ m =>
    simp only [rounds] at hr1
    cases hf : f s1 with
    | none => simp [hf] at hr1
    | some x =>
      cases x with
      | inl s2 =>
        simp only [hf] at hr1
        refine wp_mono (hin s1 s2 hf a1 w1 hc1) fun e a2 w2 ⟨he, hc2⟩ => ?_
        subst he
        refine ⟨⟨m, s2, hr1, hc2⟩, ?_⟩
        have := (eps a2 w2 ⟨m, s2, hr1, hc2⟩).2 m ⟨s2, hr1, hc2⟩
        exact Nat.lt_succ_of_le this
      | inr r2 =>
        simp only [hf, Option.some.injEq] at hr1
        subst hr1
        refine wp_mono (hout s1 hf a1 w1 hc1) fun e a2 w2 ⟨he, hq⟩ => ?_
        cases e with
        | normal => exact absurd rfl he
        | exit i => exact hq
        | goto i => exact hq
        | ret => exact hq
        | panic c => exact hq
        | outgrown => exact hq
noncomputable def Cert2.lp {σ : Type} (k : Nat) (g1 : Nat → Value) (mk : σ → (Nat → Value) → ASt × SD) (s : σ) (b : σ → (Nat → Value) → Cert2 P N (σ ⊕ ρ)) : Cert2 P N ρ where
  f c K st sd := match mvs2 k c K with
    | some (.code (.loop x), K') => (.and (.eq (st, sd) (mk s g1)) (.all fun s => .all fun g => .and ((b s g).f (.code x) (.jn mk K') (mk s g).1 (mk s g).2).1 (.eq ((b s g).f (.code x) (.jn mk K') (mk s g).1 (mk s g).2).2 ((b s gh0).f (.code x) (.jn mk K') (mk s gh0).1 (mk s gh0).2).2)),
        Abs.loop (fun s => ((b s gh0).f (.code x) (.jn mk K') (mk s gh0).1 (mk s gh0).2).2) s)
    | _ => badX
  ok c K st sd hx r hr := by
    split at hx
    · rename_i x K' hm
      simp only [hm] at hr
      refine mvs2_sound hm fun E τ S ac w hE h hs => ?_
      have hmk : (st, sd) = mk s g1 := hx.1
      have e1 : st = (mk s g1).1 := congrArg Prod.fst hmk
      have e2 : sd = (mk s g1).2 := congrArg Prod.snd hmk
      subst e1 e2
      refine loopG (P := P) (fun s a w => ∃ τ S g, Cfg E τ S (mk s g).1 a w ∧ Side E τ S (mk s g).1 w (mk s g).2) (Post2 E (kQ2 P N K' r)) hr ?_ ?_ ac w ⟨τ, S, g1, h, hs⟩
      · rintro s s' hf a w ⟨τ, S, g, hc, hs⟩
        obtain ⟨h4, h5⟩ := hx.2 s g
        refine wp_mono ((b s g).ok _ _ _ _ h4 _ (h5.trans hf) E τ S a w hE hc hs) fun e a' w' ⟨τ', S', st', sd', h1, h2, h3⟩ => ?_
        obtain ⟨rfl, g', hg⟩ := h1
        have e1 : st' = (mk s' g').1 := congrArg Prod.fst hg
        have e2 : sd' = (mk s' g').2 := congrArg Prod.snd hg
        subst e1 e2
        exact ⟨rfl, τ', S', g', h2, h3⟩
      · rintro s hf a w ⟨τ, S, g, hc, hs⟩
        obtain ⟨h4, h5⟩ := hx.2 s g
        refine wp_mono ((b s g).ok _ _ _ _ h4 _ (h5.trans hf) E τ S a w hE hc hs) fun e a' w' ⟨τ', S', st', sd', h1, h2, h3⟩ => ?_
        obtain ⟨he, h1⟩ := h1
        exact ⟨he, τ', S', st', sd', h1, h2, h3⟩
    · exact hx.elim
def leafX2 (P : Program) : {ρ : Type} → Ks2 ρ → ρ → Exit → ASt → SD → (Nat → Value) → X
  | _, .fn fn ids res hp, r, e, st, _, _ => match e with
    | .ret => .and (.eq (resA P st fn.results.toList) (some (res r))) (.and (.eq (pickHp st.hp ids) (some (hp r))) (.eq (nodupB ids) true))
    | .normal => .and (.eq (resA P st fn.results.toList) (some (res r))) (.and (.eq (pickHp st.hp ids) (some (hp r))) (.eq (nodupB ids) true))
    | _ => .bad
  | _, .seq _ K, r, e, st, sd, g => match e with
    | .ret => leafX2 P K r .ret st sd g
    | .exit i => leafX2 P K r (.exit i) st sd g
    | _ => .bad
  | _, .blk id K, r, e, st, sd, g => match e with
    | .ret => leafX2 P K r .ret st sd g
    | .normal => leafX2 P K r .normal st sd g
    | .exit i => if i = id then leafX2 P K r .normal st sd g else leafX2 P K r (.exit i) st sd g
    | _ => .bad
  | _, .jn mk _, .inl s, e, st, sd, g => match e with
    | .normal => .eq (st, sd) (mk s g)
    | _ => .bad
  | _, .jn _ K, .inr v, e, st, sd, g => match e with
    | .ret => leafX2 P K v .ret st sd g
    | .exit i => leafX2 P K v (.exit i) st sd g
    | _ => .bad
theorem leafX2_ok {N : Nat} : ∀ {ρ : Type} (K : Ks2 ρ) (r : ρ) (e : Exit) (st : ASt) (sd : SD) (g : Nat → Value), (leafX2 P K r e st sd g).ok → kQ2 P N K r e st sd := by
  intro ρ K
  induction K with
  | fn fn ids res hp =>
    intro r e st sd g h
    unfold leafX2 at h
    split at h
    · exact ⟨.inl rfl, h.1, h.2.1, h.2.2⟩
    · exact ⟨.inr rfl, h.1, h.2.1, h.2.2⟩
    · exact h.elim
  | seq c K ih =>
    intro r e st sd g h
    unfold leafX2 at h
    split at h
    · exact ih _ _ _ _ _ h
    · exact ih _ _ _ _ _ h
    · exact h.elim
  | blk id K ih =>
    intro r e st sd g h
    unfold leafX2 at h
    split at h
    · exact ih _ _ _ _ _ h
    · exact ih _ _ _ _ _ h
    · split at h
      · rename_i hi
        subst hi
        simp only [kQ2, if_pos]
        exact ih _ _ _ _ _ h
      · rename_i hi
        simp only [kQ2, if_neg hi]
        exact ih _ _ _ _ _ h
    · exact h.elim
  | jn mk K ih =>
    intro r e st sd g h
    cases r with
    | inl s =>
      unfold leafX2 at h
      split at h
      · exact ⟨rfl, g, h⟩
      · exact h.elim
    | inr v =>
      unfold leafX2 at h
      split at h
      · exact ⟨by simp, ih _ _ _ _ _ h⟩
      · exact ⟨by simp, ih _ _ _ _ _ h⟩
      · exact h.elim
def Cert2.lf (k : Nat) (live ids : List Nat) (g : Nat → Value) (y : ρ) : Cert2 P N ρ where
  f c K st sd := match mvs2 k c K with
    | some (.at e, K') => match can N st live ids with
      | some s => (leafX2 P K' y e s sd g, some y)
      | none => badX
    | _ => badX
  ok c K st sd hx r hr := by
    split at hx
    · rename_i e K' hm
      split at hx
      · rename_i s hs
        simp only [hm, hs, Option.some.injEq] at hr
        subst hr
        refine mvs2_sound hm (W2.can hs fun E τ S a w hE hc hsd => ⟨τ, S, s, sd, leafX2_ok K' _ e s sd g hx, hc, hsd⟩)
      · exact hx.elim
    · exact hx.elim

/-! ### Rows of rows: from nothing; a row taken out; a row put back; all made read-only -/
def Cert2.rrNew (z : Cert2 P N ρ) (e2 sz2 n : Nat) (len : Nat → Nat) (get : Nat → Nat → Nat → DV) (hl : ∀ i, i < n → len i = 0) : Cert2 P N ρ where
  f c K st sd := (.and (.eq sd .no) (z.f c K st (.rr e2 sz2 n (fun _ => .slice none 0 0) len get none)).1, (z.f c K st (.rr e2 sz2 n (fun _ => .slice none 0 0) len get none)).2)
  ok c K st sd hx r hr := by
    have h1 : sd = .no := hx.1
    refine W2.sim (sd' := .rr e2 sz2 n (fun _ => .slice none 0 0) len get none) (fun E τ S a w hE hc hs => ⟨τ, S, hc, fun i hi _ => ⟨?_, fun b hb => by simp [Value.ownBlock] at hb⟩, fun i j _ _ _ _ _ b hb => by simp [Value.ownBlock] at hb⟩) (z.ok _ _ _ _ hx.2 r hr)
    rw [hl i hi]
    exact ⟨[], ⟨by simp, .inl ⟨rfl, rfl⟩⟩, fun i hi => absurd hi (by omega)⟩
theorem Cfg.adopt {E τ S st a w} (h : Cfg E τ S st a w) {id : Nat} {ct : Ct} {v : Value} (hid : newId ≤ id) (hf : frFresh id st.fr = true) (hf' : hpFresh id st.hp = true)
    (hv : ∀ b, v.ownBlock = some b → ¬ S b ∧ (∀ p ∈ st.hp, (τ p.1).ownBlock ≠ some b) ∧ (E.O b ∨ E.w0.heap.size ≤ b)) (hct : RelCt (upd τ id v) S w v ct) : Cfg E (upd τ id v) S ⟨st.fr, (id, ct) :: st.hp⟩ a w := by
  have hne : ∀ p ∈ st.hp, p.1 ≠ id := fun p hp => (hpFresh_spec hf' p hp).1
  have hst : Stays τ (upd τ id v) S S w w := ⟨fun _ h => h, fun _ _ => rfl⟩
  refine ⟨h.df, h.sz, fun p hp => ?_, ⟨fun p hp => ?_, ?_, h.hp.s, fun b hb p hp => ?_⟩, fun p hp b hb => ?_, h.so, h.keep, fun i hi => (upd_ne (by omega)).trans (h.base i hi)⟩
  · obtain ⟨y, hy, hr⟩ := h.fr p hp
    exact ⟨y, hy, hr.mono hst fun i hi => upd_ne fun e => by subst e; rw [frFresh_spec hf p hp] at hi; cases hi⟩
  · rcases List.mem_cons.1 hp with rfl | hp1
    · simp only [upd_same]; exact hct
    · rw [upd_ne (hne p hp1)]
      exact (h.hp.ct p hp1).mono hst (fun i hi => upd_ne fun e => by subst e; rw [(hpFresh_spec hf' p hp1).2] at hi; cases hi) (fun _ _ => rfl)
  · refine List.pairwise_cons.2 ⟨fun p hp => ⟨(hne p hp).symm, fun b hb => ?_⟩, ?_⟩
    · simp only [upd_same] at hb
      rw [upd_ne (hne p hp)]
      exact (hv b hb).2.1 p hp
    · refine List.Pairwise.imp_of_mem ?_ h.hp.sep
      intro p q hp hq hpq
      rw [upd_ne (hne p hp), upd_ne (hne q hq)]
      exact hpq
  · rcases List.mem_cons.1 hp with rfl | hp1
    · simp only [upd_same]
      exact fun hb' => (hv b hb').1 hb
    · rw [upd_ne (hne p hp1)]; exact h.hp.ss b hb p hp1
  · rcases List.mem_cons.1 hp with rfl | hp1
    · simp only [upd_same] at hb
      exact (hv b hb).2.2
    · rw [upd_ne (hne p hp1)] at hb; exact h.own p hp1 b hb
/-- Slot t, which holds the slice of row i, becomes the named row k. -/
def Cert2.take {α : Type} [Inhabited α] (f : α → Nat → DV) (e2 sz2 : Nat) (vs : Nat → Value) (LL : List (List α)) (t k i : Nat) (hi : i < LL.length) (z : Cert2 P N ρ) : Cert2 P N ρ where
  f c K st sd := (.and (.eq sd (rrT f e2 sz2 vs LL none)) (.and (.eq (lk st.fr t) (xv (vs i))) (.and (.eq (Nat.blt t N && (decide (newId ≤ k) && (frFresh k st.fr && hpFresh k st.hp))) true)
      (z.f c K ⟨putF st.fr (some t) (.c (.nm k)), (k, .rows e2 sz2 (LL.getD i []).length (gT f (LL.getD i []))) :: st.hp⟩ (rrT f e2 sz2 vs LL (some i))).1)),
    (z.f c K ⟨putF st.fr (some t) (.c (.nm k)), (k, .rows e2 sz2 (LL.getD i []).length (gT f (LL.getD i []))) :: st.hp⟩ (rrT f e2 sz2 vs LL (some i))).2)
  ok c K st sd hx r hr := by
    obtain ⟨h1, h2, h3, h4⟩ := hx
    have h1 : sd = rrT f e2 sz2 vs LL none := h1
    have h2 : lk st.fr t = xv (vs i) := h2
    have h3 : (Nat.blt t N && (decide (newId ≤ k) && (frFresh k st.fr && hpFresh k st.hp))) = true := h3
    simp only [Bool.and_eq_true, decide_eq_true_eq] at h3
    subst h1
    refine W2.sim (fun E τ S a w hE hc hs => ?_) (z.ok _ _ _ _ h4 r hr)
    obtain ⟨s1, s2⟩ := hs
    obtain ⟨r1, r2⟩ := s1 i hi (by simp)
    have hst : Stays τ (upd τ k (vs i)) S S w w := ⟨fun _ h => h, fun _ _ => rfl⟩
    have hc' := hc.adopt h3.2.1 h3.2.2.1 h3.2.2.2 r2 (r1.mono hst (fun id hid => by simp [Ct.has] at hid) (fun _ _ => rfl))
    have hput := hc'.imp' (t := t) (v := .c (.nm k)) (hE ▸ Nat.blt_eq.mp h3.1) (by
      have hr := hc.lk t
      rw [h2] at hr
      show a.tmps.getD t undef = upd τ k (vs i) k
      rw [upd_same]
      exact hr)
    refine ⟨_, S, hput, fun i' hi' hh => ?_, fun i' j' hi' hj' hh1 hh2 hne b hb => s2 i' j' hi' hj' (by simp) (by simp) hne b hb⟩
    obtain ⟨q1, q2⟩ := s1 i' hi' (by simp)
    have hii : i ≠ i' := fun e => hh (by rw [e])
    refine ⟨q1.mono hst (fun id hid => by simp [Ct.has] at hid) (fun _ _ => rfl), fun b hb => ⟨(q2 b hb).1, fun p hp => ?_, (q2 b hb).2.2⟩⟩
    rcases List.mem_cons.1 hp with rfl | hp1
    · simp only [upd_same]
      exact s2 i' i hi' hi (by simp) (by simp) (Ne.symm hii) b hb
    · rw [upd_ne (hpFresh_spec h3.2.2.2 p hp1).1]
      exact (q2 b hb).2.1 p hp1
theorem Side.lessHp {E τ S st st' w sd} (h : Side E τ S st w sd) (hp : ∀ p ∈ st'.hp, p ∈ st.hp) : Side E τ S st' w sd := by
  cases sd with
  | no => trivial
  | rr e2 sz2 n vs len get hole =>
    obtain ⟨s1, s2⟩ := h
    exact ⟨fun i hi hh => ⟨(s1 i hi hh).1, fun b hb => ⟨((s1 i hi hh).2 b hb).1, fun p hpp => ((s1 i hi hh).2 b hb).2.1 p (hp p hpp), ((s1 i hi hh).2 b hb).2.2⟩⟩, s2⟩
theorem getD_set {α : Type} {LL : List (List α)} {X : List α} {i i' : Nat} (hi : i < LL.length) : (LL.set i X).getD i' [] = if i' = i then X else LL.getD i' [] := by
  by_cases e : i' = i
  · subst e; simp [List.getD_eq_getElem?_getD, hi]
  · rw [if_neg e]; simp [List.getD_eq_getElem?_getD, List.getElem?_set_ne (Ne.symm e)]
/-- Slot t, the named row k, goes back as row i; what its value is, stays open. -/
def Cert2.put {α : Type} [Inhabited α] (f : α → Nat → DV) (e2 sz2 : Nat) (vs : Nat → Value) (LL : List (List α)) (X' : List α) (t k i : Nat) (hi : i < LL.length) (z : (u : Value) → u.oneCell' = true → Cert2 P N ρ) : Cert2 P N ρ where
  f c K st sd := (.and (.eq sd (rrT f e2 sz2 vs LL (some i))) (.and (.eq (lk st.fr t) (.c (.nm k))) (.and (.eq (lkH st.hp k) (some (.rows e2 sz2 X'.length (gT f X')))) (.and (.eq (Nat.blt t N) true)
      (.all fun u => .imp fun hu : Value.oneCell' u = true => .and ((z u hu).f c K ⟨putF st.fr (some t) (xv u), del st.hp k⟩ (rrT f e2 sz2 (fun x => if x = i then u else vs x) (LL.set i X') none)).1
        (.eq ((z u hu).f c K ⟨putF st.fr (some t) (xv u), del st.hp k⟩ (rrT f e2 sz2 (fun x => if x = i then u else vs x) (LL.set i X') none)).2
          ((z (.slice none 0 0) rfl).f c K ⟨putF st.fr (some t) (xv (.slice none 0 0)), del st.hp k⟩ (rrT f e2 sz2 (fun x => if x = i then .slice none 0 0 else vs x) (LL.set i X') none)).2))))),
    ((z (.slice none 0 0) rfl).f c K ⟨putF st.fr (some t) (xv (.slice none 0 0)), del st.hp k⟩ (rrT f e2 sz2 (fun x => if x = i then .slice none 0 0 else vs x) (LL.set i X') none)).2)
  ok c K st sd hx r hr := by
    obtain ⟨h1, h2, h3, h4, h5⟩ := hx
    have h1 : sd = rrT f e2 sz2 vs LL (some i) := h1
    have h2 : lk st.fr t = .c (.nm k) := h2
    have h3 : lkH st.hp k = some (.rows e2 sz2 X'.length (gT f X')) := h3
    subst h1
    -- the value is the row's
    have key : ∀ (u : Value) (hu : u.oneCell' = true), W2 P N c (kQ2 P N K r) ⟨putF st.fr (some t) (xv u), del st.hp k⟩ (rrT f e2 sz2 (fun x => if x = i then u else vs x) (LL.set i X') none) := fun u hu => by
      obtain ⟨h6, h7⟩ := h5 u hu
      exact (z u hu).ok _ _ _ _ h6 r (h7.trans hr)
    have hm := lkH_mem h3
    have go : ∀ E τ S a w, E.N = N → Cfg E τ S st a w → Side E τ S st w (rrT f e2 sz2 vs LL (some i)) → (τ k).oneCell' = true ∧ Cfg E τ S ⟨putF st.fr (some t) (xv (τ k)), del st.hp k⟩ a w ∧ Side E τ S ⟨putF st.fr (some t) (xv (τ k)), del st.hp k⟩ w (rrT f e2 sz2 (fun x => if x = i then τ k else vs x) (LL.set i X') none) := by
      intro E τ S a w hE hc hs
      have hrow := hc.hp.ct _ hm
      have hone : (τ k).oneCell' = true := by
        obtain ⟨xs, hown, _⟩ := hrow
        rcases hown.2 with ⟨hn, _⟩ | ⟨b, cap, cur, fz, hb, _⟩
        · simp only at hn; rw [hn]; rfl
        · simp only at hb; rw [hb]; rfl
      have hput := hc.imp' (t := t) (v := xv (τ k)) (hE ▸ Nat.blt_eq.mp h4) (by
        have hr := hc.lk t
        rw [h2] at hr
        exact hr)
      have hless : Cfg E τ S ⟨putF st.fr (some t) (xv (τ k)), del st.hp k⟩ a w := by
        refine ⟨hput.df, hput.sz, hput.fr, ⟨fun p hp => hput.hp.ct p (mem_del.1 hp).1, del_pairwise hput.hp.sep, hput.hp.s, fun b hb p hp => hput.hp.ss b hb p (mem_del.1 hp).1⟩, fun p hp => hput.own p (mem_del.1 hp).1, hput.so, hput.keep, hput.base⟩
      refine ⟨hone, hless, ?_⟩
      obtain ⟨s1, s2⟩ := hs
      have hdis : ∀ b, (τ k).ownBlock = some b → ¬ S b ∧ (∀ p ∈ del st.hp k, (τ p.1).ownBlock ≠ some b) ∧ (E.O b ∨ E.w0.heap.size ≤ b) := by
        intro b hb
        refine ⟨fun hS => hc.hp.ss b hS _ hm hb, fun p hp hpb => ?_, hc.own _ hm b hb⟩
        obtain ⟨h7, h8⟩ := mem_del.1 hp
        exact hc.hp.apart hm h7 (Ne.symm h8) b hb hpb
      have hlen : (LL.set i X').length = LL.length := List.length_set ..
      refine ⟨fun i' hi' _ => ?_, fun i' j' hi' hj' _ _ hne b hb => ?_⟩
      · simp only [getD_set hi]
        by_cases e : i' = i
        · subst e
          simp only [if_true]
          exact ⟨hrow, hdis⟩
        · simp only [if_neg e]
          obtain ⟨q1, q2⟩ := s1 i' (by omega) (by simp; exact fun h => e h.symm)
          exact ⟨q1, fun b hb => ⟨(q2 b hb).1, fun p hp => (q2 b hb).2.1 p (mem_del.1 hp).1, (q2 b hb).2.2⟩⟩
      · by_cases e : i' = i
        · subst e
          simp only [if_true] at hb
          show ((if j' = i' then τ k else vs j') : Value).ownBlock ≠ some b
          rw [if_neg (fun e => hne e.symm)]
          have hj0 : some i' ≠ some j' := by simpa using hne
          obtain ⟨_, q2⟩ := s1 j' (by omega) hj0
          exact fun hj => (q2 b hj).2.1 _ hm hb
        · have hb2 : ((if i' = i then τ k else vs i') : Value).ownBlock = some b := hb
          rw [if_neg e] at hb2
          show ((if j' = i then τ k else vs j') : Value).ownBlock ≠ some b
          by_cases e2 : j' = i
          · subst e2
            rw [if_pos rfl]
            obtain ⟨_, q2⟩ := s1 i' (by omega) (by simp; exact fun h => e h.symm)
            exact fun hk => (q2 b hb2).2.1 _ hm hk
          · rw [if_neg e2]
            exact s2 i' j' (by omega) (by omega) (by simp; exact fun h => e h.symm) (by simp; exact fun h => e2 h.symm) hne b hb2
    exact W2.simE (ι := Value) (G := fun u => u.oneCell' = true) (st' := fun u => ⟨putF st.fr (some t) (xv u), del st.hp k⟩) (sd' := fun u => rrT f e2 sz2 (fun x => if x = i then u else vs x) (LL.set i X') none) (fun E τ S a w hE hc hs => ⟨τ k, (go E τ S a w hE hc hs).1, τ, S, (go E τ S a w hE hc hs).2.1, (go E τ S a w hE hc hs).2.2⟩) key
/-- All rows become read-only. -/
theorem Cfg.freezeD {E τ S st a w} (h : Cfg E τ S st a w) {id : Nat} {ct : Ct} {d : DV} (hl : lkH st.hp id = some ct) (hd : RelD (fun b => S b ∨ (τ id).ownBlock = some b) w d (τ id)) :
    Cfg E τ (fun b => S b ∨ (τ id).ownBlock = some b) (frzSt id d st) a w := by
  have hm := lkH_mem hl
  have hs : Stays τ τ S (fun b => S b ∨ (τ id).ownBlock = some b) w w := ⟨fun b hb => .inl hb, fun _ _ => rfl⟩
  refine ⟨h.df, h.sz, ?_, ⟨?_, ?_, ?_, ?_⟩, ?_, ?_, h.keep, h.base⟩
  · intro p hp
    obtain ⟨q, hq, rfl⟩ := List.mem_map.1 hp
    obtain ⟨v, hv, hr⟩ := h.fr q hq
    exact ⟨v, hv, (hr.mono hs fun _ _ => rfl).frz hd⟩
  · intro p hp
    obtain ⟨q, hq, rfl⟩ := List.mem_map.1 hp
    have hq0 := (mem_del.1 hq).1
    have hr := (h.hp.ct q hq0).mono hs (fun _ _ => rfl) (fun _ _ => rfl)
    obtain ⟨qi, qc⟩ := q
    cases qc with
    | rows e sz n g => exact hr
    | box e l =>
      obtain ⟨b, us, h1, h2, h3⟩ := hr
      exact ⟨b, us, h1, h2, h3.frz hd⟩
  · unfold frzSt
    rw [List.pairwise_map]
    exact del_pairwise h.hp.sep
  · rintro b (hb | hb)
    · exact h.hp.s b hb
    · exact (h.hp.ct _ hm).lt b hb
  · rintro b (hb | hb) p hp
    · obtain ⟨q, hq, rfl⟩ := List.mem_map.1 hp
      exact h.hp.ss b hb q (mem_del.1 hq).1
    · obtain ⟨q, hq, rfl⟩ := List.mem_map.1 hp
      obtain ⟨hq0, hqne⟩ := mem_del.1 hq
      exact h.hp.apart hm hq0 (Ne.symm hqne) b hb
  · intro p hp
    obtain ⟨q, hq, rfl⟩ := List.mem_map.1 hp
    exact h.own q (mem_del.1 hq).1
  · rintro b (hb | hb)
    · exact h.so b hb
    · exact .inr (h.own _ hm b hb)
def Cert2.rrFz {α : Type} [Inhabited α] (f : α → Nat → DV) (e2 sz2 : Nat) (vs : Nat → Value) (LL : List (List α)) (id ety : Nat) (z : Cert2 P N ρ) : Cert2 P N ρ where
  f c K st sd := (.and (.eq sd (rrT f e2 sz2 vs LL none)) (.and (.eq (lkH st.hp id) (some (.rows ety 1 LL.length (fun i _ => .v (vs i)))))
      (z.f c K (frzSt id (.ro 1 LL.length (gT (fSl sz2 f) LL)) st) .no).1), (z.f c K (frzSt id (.ro 1 LL.length (gT (fSl sz2 f) LL)) st) .no).2)
  ok c K st sd hx r hr := by
    obtain ⟨h1, h2, h3⟩ := hx
    have h1 : sd = rrT f e2 sz2 vs LL none := h1
    have h2 : lkH st.hp id = some (.rows ety 1 LL.length (fun i _ => .v (vs i))) := h2
    subst h1
    refine W2.sim (fun E τ S a w hE hc hs => ?_) (z.ok _ _ _ _ h3 r hr)
    obtain ⟨s1, s2⟩ := hs
    -- the inner blocks become read-only
    have hc1 := hc.moreS (fun b => ∃ i, i < LL.length ∧ (vs i).ownBlock = some b) (fun b ⟨i, hi, hb⟩ => (s1 i hi (by simp)).1.lt b hb) (fun b ⟨i, hi, hb⟩ => ((s1 i hi (by simp)).2 b hb).2.1) (fun b ⟨i, hi, hb⟩ => .inr ((s1 i hi (by simp)).2 b hb).2.2)
    have hro := rows_ro hc1.hp h2
    refine ⟨τ, _, hc1.freezeD h2 ?_, trivial⟩
    obtain ⟨ad, c', hv, hcc, hcell⟩ := hro
    refine ⟨ad, c', hv, hcc, fun hn => ?_⟩
    obtain ⟨b, o, hb1, hb2, hcl⟩ := hcell hn
    refine ⟨b, o, hb1, hb2, fun i hi j hj => ?_⟩
    obtain ⟨u, h4, h5, h6⟩ := hcl i hi j hj
    refine ⟨u, h4, h5, ?_⟩
    have h6 : u = vs i := h6
    subst h6
    obtain ⟨xs, hown, hrc⟩ := (s1 i hi (by simp)).1
    show RelD _ w (.ro sz2 (LL.getD i default).length (gT f (LL.getD i default))) (vs i)
    have hd : LL.getD i default = LL.getD i [] := rfl
    rw [hd]
    rcases hown.2 with ⟨hnil, hn0⟩ | ⟨g, cap, cur, fz, hg1, hg2, _, hcap, _⟩
    · have hn0 : (LL.getD i []).length = 0 := hn0
      rw [hnil, hn0]
      exact ⟨none, 0, rfl, Nat.le_refl _, fun h => absurd h (by omega)⟩
    · refine ⟨some ⟨g, 0, none⟩, cap, hg1, hcap, fun _ => ⟨g, 0, rfl, .inl (.inr ⟨i, hi, by rw [hg1]; rfl⟩), fun i2 hi2 j2 hj2 => ?_⟩⟩
      obtain ⟨u2, h7, h8, h9⟩ := hrc i2 hi2 j2 hj2
      exact ⟨u2, by rw [Nat.zero_add]; exact owns_cell hown (by rw [hg1]; rfl) h7, h8, RelD.mono (fun b hb => .inl (.inl hb)) (fun _ _ => rfl) _ _ h9⟩

/-! ### A row of exact values: a store; another telling of the same row -/
theorem WO.storeV {ops : Array Oper} {i : Nat} {l : List Nat} {st : ASt} {Q : Exit → ASt → Prop} {o : Oper} {x y : Operand} {t ety n n' k0 id : Nat} {vs : Nat → Value} {u : Value}
    (ho : ops[i]? = some o) (hop : o.op = .store t x y) (hgd : o.guard = none) (hx : opA st.fr x = .c (.np id 1 k0 0)) (hl : lkH st.hp id = some (.rows ety 1 n (fun i _ => .v (vs i)))) (hy : opA st.fr y = xv u) (hu : u.oneCell' = true) (hk0 : k0 < n) (hn : n = n')
    (hchk : (decide ((P.info? t).map (·.size) = some 1) && dstOk N o.dst) = true)
    (k : WO P N ops l ⟨putF st.fr o.dst .dead, setHp st.hp id (.rows ety 1 n' (fun i _ => .v (if i = k0 then u else vs i)))⟩ Q) : WO P N ops (i :: l) st Q := by
  subst hn
  simp only [Bool.and_eq_true, decide_eq_true_eq] at hchk
  obtain ⟨hsz, hd⟩ := hchk
  intro E τ S a w hE h
  have hw : Region.wanted o (yielded ops a.tmps) = true := by simp [Region.wanted, hgd]
  have hrx := h.opA x
  rw [hx] at hrx
  obtain ⟨b, hb, hxe⟩ := hrx
  have hry := h.opA y
  rw [hy] at hry
  have hye : a.eval y = u := hry
  obtain ⟨w', hrun, hC⟩ := h.wrow (P := P) (off := k0) (m := 1) (gx := fun _ _ => .v u) (g' := fun i _ => .v (if i = k0 then u else vs i)) (vs := [u]) hl hb (by omega) (by simp) (fun i hi j hj => by
    have e1 : i = 0 := by omega
    have e2 : j = 0 := by omega
    subst e1 e2
    exact ⟨u, rfl, hu, rfl⟩) (fun i hi j hj => by
    by_cases e : i = k0
    · rw [if_pos e, if_pos (by omega)]
    · rw [if_neg e, if_neg (by omega)])
  have hcells : u.cells = #[u] := cells_one hu
  have hrun2 : (storeVar t ⟨b, k0 * 1 + 0, none⟩ u).run P w = .ok () w' := by
    cases hi : P.info? t with
    | none => simp [hi] at hsz
    | some ii =>
      simp [hi] at hsz
      simp [storeVar, sizeOf, typeInfo, hi, hsz, hcells]
      simpa using hrun
  refine wpOps_doSkip ho hw (w' := w') ?_ (k E τ S _ w' hE (hC.put (hE ▸ dst_lt hd) trivial))
  have hrun3 : (storeVar t ⟨b, k0, none⟩ u).run P w = .ok () w' := by simpa using hrun2
  simp [execOp, hop, hxe, hye, Instr.storeAt, Instr.sureAddr, hrun3]
def Step.stV (id ety n n' k0 : Nat) (vs : Nat → Value) (u : Value) (hu : u.oneCell' = true) (hk0 : k0 < n) (hn : n = n') : Step P N :=
  .op (fun _ o st => .and (.eq o.op (.store (stTy o) (stX o) (stY o))) (.and (.eq o.guard none) (.and (.eq (opA st.fr (stX o)) (.c (.np id 1 k0 0))) (.and (.eq (lkH st.hp id) (some (.rows ety 1 n (fun i _ => .v (vs i))))) (.and (.eq (opA st.fr (stY o)) (xv u)) (.eq (decide ((P.info? (stTy o)).map (·.size) = some 1) && dstOk N o.dst) true))))))
    (fun _ o st => ⟨putF st.fr o.dst .dead, setHp st.hp id (.rows ety 1 n' (fun i _ => .v (if i = k0 then u else vs i)))⟩)
    (fun ops o i l st Q ho hx k => by
      obtain ⟨h1, h2, h3, h4, h5, h6⟩ := hx
      exact WO.storeV ho h1 h2 h3 h4 h5 hu hk0 hn h6 k)
theorem rr0 {α : Type} (n : Nat) : (List.replicate n (Value.slice none 0 0)).length = (List.replicate n ([] : List α)).length ∧ ∀ i, i < (List.replicate n (Value.slice none 0 0)).length → ∀ j, j < 1 → gT (fun (x : Value) _ => DV.v x) (List.replicate n (.slice none 0 0)) i j = DV.v (Value.slice none 0 0) := by
  refine ⟨by simp, fun i hi j _ => ?_⟩
  have hi' : i < n := by simpa using hi
  simp [gT, List.getD_eq_getElem?_getD, hi']
def Cert2.rrN {α : Type} [Inhabited α] (f : α → Nat → DV) (e2 sz2 n : Nat) (z : Cert2 P N ρ) : Cert2 P N ρ :=
  Cert2.rrNew z e2 sz2 (List.replicate n ([] : List α)).length (fun i => ((List.replicate n ([] : List α)).getD i []).length) (fun i => gT f ((List.replicate n ([] : List α)).getD i [])) (fun i hi => by
    have hi' : i < n := by simpa using hi
    simp [List.getD_eq_getElem?_getD, hi'])
theorem Cfg.reR {E τ S st a w} (h : Cfg E τ S st a w) {id ety sz n n' : Nat} {g g' : Nat → Nat → DV} (hl : lkH st.hp id = some (.rows ety sz n g)) (hg : n = n' ∧ ∀ i, i < n → ∀ j, j < sz → g i j = g' i j) : Cfg E τ S ⟨st.fr, setHp st.hp id (.rows ety sz n' g')⟩ a w := by
  obtain ⟨rfl, hg⟩ := hg
  have hpw : st.hp.Pairwise (fun p q => p.1 ≠ q.1) := h.hp.sep.imp fun h => h.1
  have hm := lkH_mem hl
  refine ⟨h.df, h.sz, h.fr, ⟨fun p hp => ?_, ?_, h.hp.s, fun b hb p hp => ?_⟩, fun p hp b hb => ?_, h.so, h.keep, h.base⟩
  · rcases mem_setHp hpw hp with ⟨rfl, _⟩ | ⟨h1, h2⟩
    · obtain ⟨xs, h1, h2⟩ := h.hp.ct _ hm
      exact ⟨xs, h1, fun i hi j hj => by rw [← hg i hi j hj]; exact h2 i hi j hj⟩
    · exact h.hp.ct p h1
  · exact pairwise_keys (R := fun i j => i ≠ j ∧ ∀ b, (τ i).ownBlock = some b → (τ j).ownBlock ≠ some b) setHp_keys.symm h.hp.sep
  · rcases mem_setHp hpw hp with ⟨rfl, _⟩ | ⟨h1, h2⟩
    · exact h.hp.ss b hb (id, .rows ety sz n g) hm
    · exact h.hp.ss b hb p h1
  · rcases mem_setHp hpw hp with ⟨rfl, _⟩ | ⟨h1, h2⟩
    · exact h.own (id, .rows ety sz n g) hm b hb
    · exact h.own p h1 b hb
def Step.reR (id ety sz n n' : Nat) (g g' : Nat → Nat → DV) (hg : n = n' ∧ ∀ i, i < n → ∀ j, j < sz → g i j = g' i j) : Step P N :=
  .tr (fun st => .eq (lkH st.hp id) (some (.rows ety sz n g))) (fun st => ⟨st.fr, setHp st.hp id (.rows ety sz n' g')⟩) (fun st hx E τ S a w hE hc => ⟨τ, S, hc.reR hx hg⟩)

/-- From a certificate over both to a contract. -/
theorem Cert2.spec {f : FuncId} {fn : Func} {c : Code} {args : List AV} {hp0 : List (Nat × Ct)} (ids : List Nat) (res : ρ → AV) (hp' : ρ → List (Nat × Ct)) (z : Cert2 P N ρ) (hf : P.funcs[f]? = some fn) (hb : fn.body = some c) {F : Option ρ}
    (hx : (⟨decide (fn.ntmps = N) && Nat.ble args.length N, ⟨(z.f (.code c) (.fn fn ids res hp') ⟨slots 0 args, hp0⟩ .no).1.y true, F⟩⟩ : Bool × (Y × Option ρ)) = ⟨true, ⟨(z.f (.code c) (.fn fn ids res hp') ⟨slots 0 args, hp0⟩ .no).1.y false, (z.f (.code c) (.fn fn ids res hp') ⟨slots 0 args, hp0⟩ .no).2⟩⟩)
    {r : ρ} (h : F = some r) : Spec P f args hp0 (res r) (hp' r) := by
  simp only [Prod.mk.injEq, Bool.and_eq_true, decide_eq_true_eq] at hx
  obtain ⟨⟨h1, h2⟩, h3, h4⟩ := hx
  rw [h4] at h
  refine Spec.enter ids hf hb h1 h2 fun E τ S a w hE hc => ?_
  exact wp_mono (z.ok _ _ _ _ (X.ok_of h3) r h E τ S a w hE hc trivial) fun e a w ⟨τ, S, st, sd, h1, h2, _⟩ => ⟨τ, S, st, h1, h2⟩
end
end Go.Abs
