/- DERIVED. Own theory, part 17: certificates: a function's walk as one term; its checks are evaluated by the kernel, all at once. -/
import Derived.Test.YtlhiaclmbegaiaaGreatA16
set_option linter.unusedVariables false
set_option linter.unusedSimpArgs false
namespace Go.Abs

/-! ### What is to be checked -/
inductive X : Type 1 where
  | nil
  | bad
  | and (a b : X)
  | all {σ : Type} (k : σ → X)
  | imp {q : Prop} (k : q → X)
  | eq {α : Type} (a b : α)
inductive Y : Type 1 where
  | nil
  | bad (b : Bool)
  | and (a b : Y)
  | all {σ : Type} (k : σ → Y)
  | imp {q : Prop} (k : q → Y)
  | v {α : Type} (a : α)
def X.ok : X → Prop
  | .nil => True
  | .bad => False
  | .and a b => a.ok ∧ b.ok
  | .all k => ∀ s, (k s).ok
  | .imp k => ∀ h, (k h).ok
  | .eq a b => a = b
def X.y (t : Bool) : X → Y
  | .nil => .nil
  | .bad => .bad t
  | .and a b => .and (a.y t) (b.y t)
  | .all k => .all fun s => (k s).y t
  | .imp k => .imp fun s => (k s).y t
  | .eq a b => .v (match t with | true => a | false => b)
theorem X.ok_of : ∀ {x : X}, x.y true = x.y false → x.ok
  | .nil, _ => trivial
  | .bad, h => by simp [X.y] at h
  | .and a b, h => by
    simp only [X.y, Y.and.injEq] at h
    exact ⟨X.ok_of h.1, X.ok_of h.2⟩
  | .all k, h => by
    simp only [X.y, Y.all.injEq, heq_eq_eq, true_and] at h
    exact fun s => X.ok_of (congrFun h s)
  | .imp k, h => by
    simp only [X.y, Y.imp.injEq, heq_eq_eq, true_and] at h
    exact fun s => X.ok_of (congrFun h s)
  | .eq a b, h => by
    simp only [X.y, Y.v.injEq, heq_eq_eq, true_and] at h
    exact h

/-! ### Where the walk stands -/
inductive Ks : Type → Type 1 where
  | fn {ρ : Type} (fn : Func) (ids : List Nat) (res : ρ → AV) (hp : ρ → List (Nat × Ct)) : Ks ρ
  | seq {ρ : Type} (c : Code) (K : Ks ρ) : Ks ρ
  | blk {ρ : Type} (id : Nat) (K : Ks ρ) : Ks ρ
  | jn {σ ρ : Type} (mk : σ → ASt) (K : Ks ρ) : Ks (σ ⊕ ρ)
def kQ (P : Program) (N : Nat) : {ρ : Type} → Ks ρ → ρ → Exit → ASt → Prop
  | _, .fn fn ids res hp, r => retQ P fn ids (res r) (hp r)
  | _, .seq c K, r => thenQ P N c (kQ P N K r)
  | _, .blk id K, r => blockQ id (kQ P N K r)
  | _, .jn mk K, r => loopQ mk (kQ P N K) r
inductive Cur where
  | code (c : Code)
  | ops (o : Array Oper) (l : List Nat)
  | at (e : Exit)
def W (P : Program) (N : Nat) : Cur → (Exit → ASt → Prop) → ASt → Prop
  | .code c, Q, st => WPA P N c st Q
  | .ops o l, Q, st => WO P N o l st Q
  | .at e, Q, st => ∀ E τ S a w, E.N = N → Cfg E τ S st a w → Post E Q e a w

def mv {ρ : Type} : Cur → Ks ρ → Option (Cur × Ks ρ)
  | .code (.seq a b), K => some (.code a, .seq b K)
  | .code (.block id c), K => some (.code c, .blk id K)
  | .code (.region _ ops false), K => some (.ops ops (List.range ops.size), K)
  | .code .skip, K => some (.at .normal, K)
  | .code .ret, K => some (.at .ret, K)
  | .code (.exit i), K => some (.at (.exit i), K)
  | .ops _ [], K => some (.at .normal, K)
  | .at .normal, .seq c K => some (.code c, K)
  | .at .normal, .blk _ K => some (.at .normal, K)
  | .at (.exit i), .seq _ K => some (.at (.exit i), K)
  | .at (.exit i), .blk j K => if i = j then some (.at .normal, K) else some (.at (.exit i), K)
  | .at .ret, .seq _ K => some (.at .ret, K)
  | .at .ret, .blk _ K => some (.at .ret, K)
  | _, _ => none
def mvs {ρ : Type} : Nat → Cur → Ks ρ → Option (Cur × Ks ρ)
  | 0, c, K => some (c, K)
  | n + 1, c, K => match mv c K with
    | some (c', K') => mvs n c' K'
    | none => none
theorem Post.mono {E : Env} {Q Q' : Exit → ASt → Prop} {e e' : Exit} {a : Act} {w : World} (h : Post E Q e a w) (hq : ∀ st, Q e st → Q' e' st) : Post E Q' e' a w := by
  obtain ⟨τ, S, st, h1, h2⟩ := h
  exact ⟨τ, S, st, hq st h1, h2⟩
theorem mv_sound {P : Program} {N : Nat} {ρ : Type} {c c' : Cur} {K K' : Ks ρ} {st : ASt} {r : ρ} (h : mv c K = some (c', K')) (k : W P N c' (kQ P N K' r) st) : W P N c (kQ P N K r) st := by
  unfold mv at h
  split at h
  case h_11 =>
    split at h
    · rename_i hij
      cases h
      subst hij
      exact fun E τ S a w hE hc => (k E τ S a w hE hc).mono fun st h => by simp only [kQ, blockQ, if_pos]; exact h
    · rename_i hij
      cases h
      exact fun E τ S a w hE hc => (k E τ S a w hE hc).mono fun st h => by simp only [kQ, blockQ, if_neg hij]; exact h
  all_goals cases h
  · exact WPA.seq k
  · exact WPA.block k
  · exact WPA.region k
  · exact fun E τ S a w hE hc => wp_skip (k E τ S a w hE hc)
  · exact fun E τ S a w hE hc => wp_ret (k E τ S a w hE hc)
  · exact fun E τ S a w hE hc => wp_exit (k E τ S a w hE hc)
  · exact fun E τ S a w hE hc => k E τ S a w hE hc
  · exact fun E τ S a w hE hc => ⟨τ, S, st, k, hc⟩
  all_goals exact fun E τ S a w hE hc => (k E τ S a w hE hc).mono fun st h => h
theorem mvs_sound {P : Program} {N : Nat} {ρ : Type} : ∀ {n : Nat} {c c' : Cur} {K K' : Ks ρ} {st : ASt} {r : ρ}, mvs n c K = some (c', K') → W P N c' (kQ P N K' r) st → W P N c (kQ P N K r) st
  | 0, c, c', K, K', st, r, h, k => by
    simp only [mvs, Option.some.injEq, Prod.mk.injEq] at h
    obtain ⟨rfl, rfl⟩ := h
    exact k
  | n + 1, c, c', K, K', st, r, h, k => by
    simp only [mvs] at h
    split at h
    · rename_i c1 K1 h1
      exact mv_sound h1 (mvs_sound h k)
    · cases h

/-! ### Certificates -/
structure Cert (P : Program) (N : Nat) (ρ : Type) where
  f : Cur → Ks ρ → ASt → X × Option ρ
  ok : ∀ c K st, (f c K st).1.ok → ∀ r, (f c K st).2 = some r → W P N c (kQ P N K r) st
def badX {ρ : Type} : X × Option ρ := (.bad, none)
section
variable {P : Program} {N : Nat} {ρ : Type}

/-- n operations. -/
def Cert.rp (k n nx : Nat) (live ids : List Nat) (p : Ob) (hp : ob p) (z : Cert P N ρ) : Cert P N ρ where
  f c K st := match mvs k c K with
    | some (.ops o l, K') => match arun P N o n l st nx with
      | some (q, l', st1, _) => match can N st1 live ids with
        | some s => (.and (.eq q p) (z.f (.ops o l') K' s).1, (z.f (.ops o l') K' s).2)
        | none => badX
      | none => badX
    | _ => badX
  ok c K st hx r hr := by
    split at hx
    · rename_i o l K' hm
      split at hx
      · rename_i q l' st1 nx1 ha
        split at hx
        · rename_i s hs
          simp only [hm, ha, hs] at hr
          obtain ⟨h1, h2⟩ := hx
          refine mvs_sound hm (arun_sound n ha (by rw [show q = p from h1]; exact hp) (WO.can live ids hs (z.ok _ _ _ h2 r hr)))
        · exact hx.elim
      · exact hx.elim
    · exact hx.elim
def Cert.r (k n nx : Nat) (live ids : List Nat) (z : Cert P N ρ) : Cert P N ρ := .rp k n nx live ids none trivial z
def Cert.m (k : Nat) (z : Cert P N ρ) : Cert P N ρ where
  f c K st := match mvs k c K with
    | some (c', K') => z.f c' K' st
    | _ => badX
  ok c K st hx r hr := by
    split at hx
    · rename_i c' K' hm
      simp only [hm] at hr
      exact mvs_sound hm (z.ok _ _ _ hx r hr)
    · exact hx.elim

def gdp {α : Type} (p : Prop) [Decidable p] (k : p → Option α) : Option α := if h : p then k h else none
def Cert.gd (q : Prop) [Decidable q] (z : q → Cert P N ρ) : Cert P N ρ where
  f c K st := (.imp fun h : q => ((z h).f c K st).1, gdp q fun h => ((z h).f c K st).2)
  ok c K st hx r hr := by
    unfold gdp at hr
    split at hr
    · rename_i h; exact (z h).ok _ _ _ (hx h) r hr
    · cases hr
def setF (ts : List Nat) (v : AV) (fr : List (Nat × AV)) : List (Nat × AV) := fr.map fun p => if ts.contains p.1 then (p.1, v) else p
def setC (id : Nat) (v : Ct) (hp : List (Nat × Ct)) : List (Nat × Ct) := hp.map fun p => if p.1 = id then (p.1, v) else p
/-- A long term gets a name: in slots; in a named block. -/
def Cert.bs {α : Type} (x : α) (ts : List Nat) (av : α → AV) (z : α → Cert P N ρ) : Cert P N ρ where
  f c K st := (.and (.eq st ⟨setF ts (av x) st.fr, st.hp⟩) (.all fun y => ((z y).f c K ⟨setF ts (av y) st.fr, st.hp⟩).1), Abs.bd x fun y => ((z y).f c K ⟨setF ts (av y) st.fr, st.hp⟩).2)
  ok c K st hx r hr := by
    have h1 : st = ⟨setF ts (av x) st.fr, st.hp⟩ := hx.1
    have := (z x).ok c K _ (hx.2 x) r hr
    rw [← h1] at this
    exact this
def Cert.bh {α : Type} (x : α) (id : Nat) (ct : α → Ct) (z : α → Cert P N ρ) : Cert P N ρ where
  f c K st := (.and (.eq st ⟨st.fr, setC id (ct x) st.hp⟩) (.all fun y => ((z y).f c K ⟨st.fr, setC id (ct y) st.hp⟩).1), Abs.bd x fun y => ((z y).f c K ⟨st.fr, setC id (ct y) st.hp⟩).2)
  ok c K st hx r hr := by
    have h1 : st = ⟨st.fr, setC id (ct x) st.hp⟩ := hx.1
    have := (z x).ok c K _ (hx.2 x) r hr
    rw [← h1] at this
    exact this
def Cert.cond (k : Nat) (a b : Cert P N ρ) : Cert P N ρ where
  f c K st := match mvs k c K with
    | some (.code (.cond o x y), K') => match opA st.fr o with
      | .c (.d (.v (.bool t))) => (.and (a.f (.code x) K' st).1 (b.f (.code y) K' st).1, _root_.cond t (a.f (.code x) K' st).2 (b.f (.code y) K' st).2)
      | _ => badX
    | _ => badX
  ok c K st hx r hr := by
    split at hx
    · rename_i o x y K' hm
      split at hx
      · rename_i t ho
        simp only [hm, ho] at hr
        refine mvs_sound hm (WPA.cond t ho (fun h => a.ok _ _ _ hx.1 r ?_) (fun h => b.ok _ _ _ hx.2 r ?_))
        · exact cond_t h hr
        · exact cond_f h hr
      · exact hx.elim
    · exact hx.elim
def Cert.sq {σ : Type} (k : Nat) (mk : σ → ASt) (a : Cert P N (σ ⊕ ρ)) (b : σ → Cert P N ρ) : Cert P N ρ where
  f c K st := match mvs k c K with
    | some (.code (.seq x y), K') => (.and (a.f (.code x) (.jn mk K') st).1 (.all fun s => ((b s).f (.code y) K' (mk s)).1), bindE (a.f (.code x) (.jn mk K') st).2 fun s => ((b s).f (.code y) K' (mk s)).2)
    | _ => badX
  ok c K st hx r hr := by
    split at hx
    · rename_i x y K' hm
      simp only [hm] at hr
      refine mvs_sound hm (WPA.seqJ (Q := kQ P N K') mk hr (fun v hv => a.ok _ _ _ hx.1 v hv) (fun s hs => (b s).ok _ _ _ (hx.2 s) r hs))
    · exact hx.elim
noncomputable def Cert.lp {σ : Type} (k : Nat) (mk : σ → ASt) (s : σ) (b : σ → Cert P N (σ ⊕ ρ)) : Cert P N ρ where
  f c K st := match mvs k c K with
    | some (.code (.loop x), K') => (.and (.eq st (mk s)) (.all fun s => ((b s).f (.code x) (.jn mk K') (mk s)).1), Abs.loop (fun s => ((b s).f (.code x) (.jn mk K') (mk s)).2) s)
    | _ => badX
  ok c K st hx r hr := by
    split at hx
    · rename_i x K' hm
      simp only [hm] at hr
      refine mvs_sound hm ?_
      rw [show st = mk s from hx.1]
      exact WPA.loopJ (Q := kQ P N K') mk hr (fun s v hv => (b s).ok _ _ _ (hx.2 s) v hv)
    · exact hx.elim
noncomputable def bindp {α β : Type} (m : Option α) (k : (r : α) → m = some r → Option β) : Option β :=
  Option.rec (motive := fun o => m = o → Option β) (fun _ => none) (fun r h => k r h) m rfl
noncomputable def bnd {α β : Type} (m : Option α) (k : α → Option β) : Option β := bindp m fun r _ => k r
theorem bindp_inv {α β : Type} {m : Option α} {k : (r : α) → m = some r → Option β} {x : β} (h : bindp m k = some x) : ∃ r, ∃ hr : m = some r, k r hr = some x := by
  cases m with
  | none => simp [bindp] at h
  | some r => exact ⟨r, rfl, h⟩
theorem bnd_eq {α β : Type} {m : Option α} {k : α → Option β} : bnd m k = m.bind k := by cases m <;> rfl
noncomputable def Cert.bind {α : Type} (m : Option α) (z : (r : α) → m = some r → Cert P N ρ) : Cert P N ρ where
  f c K st := (.all fun r => .imp fun h : m = some r => ((z r h).f c K st).1, bindp m fun r h => ((z r h).f c K st).2)
  ok c K st hx r hr := by
    obtain ⟨v, hv, hk⟩ := bindp_inv hr
    exact (z v hv).ok _ _ _ (hx v hv) r hk
/-- An end. -/
def leafX (P : Program) : {ρ : Type} → Ks ρ → ρ → Exit → ASt → X
  | _, .fn fn ids res hp, r, e, st => match e with
    | .ret => .and (.eq (resA P st fn.results.toList) (some (res r))) (.and (.eq (pickHp st.hp ids) (some (hp r))) (.eq (nodupB ids) true))
    | .normal => .and (.eq (resA P st fn.results.toList) (some (res r))) (.and (.eq (pickHp st.hp ids) (some (hp r))) (.eq (nodupB ids) true))
    | _ => .bad
  | _, .seq _ K, r, e, st => match e with
    | .ret => leafX P K r .ret st
    | .exit i => leafX P K r (.exit i) st
    | _ => .bad
  | _, .blk id K, r, e, st => match e with
    | .ret => leafX P K r .ret st
    | .normal => leafX P K r .normal st
    | .exit i => if i = id then leafX P K r .normal st else leafX P K r (.exit i) st
    | _ => .bad
  | _, .jn mk _, .inl s, e, st => match e with
    | .normal => .eq st (mk s)
    | _ => .bad
  | _, .jn _ K, .inr v, e, st => match e with
    | .ret => leafX P K v .ret st
    | .exit i => leafX P K v (.exit i) st
    | _ => .bad
theorem leafX_ok {N : Nat} : ∀ {ρ : Type} (K : Ks ρ) (r : ρ) (e : Exit) (st : ASt), (leafX P K r e st).ok → kQ P N K r e st := by
  intro ρ K
  induction K with
  | fn fn ids res hp =>
    intro r e st h
    unfold leafX at h
    split at h
    · exact ⟨.inl rfl, h.1, h.2.1, h.2.2⟩
    · exact ⟨.inr rfl, h.1, h.2.1, h.2.2⟩
    · exact h.elim
  | seq c K ih =>
    intro r e st h
    unfold leafX at h
    split at h
    · exact ih _ _ _ h
    · exact ih _ _ _ h
    · exact h.elim
  | blk id K ih =>
    intro r e st h
    unfold leafX at h
    split at h
    · exact ih _ _ _ h
    · exact ih _ _ _ h
    · split at h
      · rename_i hi
        subst hi
        simp only [kQ, blockQ, if_pos]
        exact ih _ _ _ h
      · rename_i hi
        simp only [kQ, blockQ, if_neg hi]
        exact ih _ _ _ h
    · exact h.elim
  | jn mk K ih =>
    intro r e st h
    cases r with
    | inl s =>
      unfold leafX at h
      split at h
      · exact ⟨rfl, h⟩
      · exact h.elim
    | inr v =>
      unfold leafX at h
      split at h
      · exact ⟨by simp, ih _ _ _ h⟩
      · exact ⟨by simp, ih _ _ _ h⟩
      · exact h.elim
def Cert.lf (k : Nat) (live ids : List Nat) (y : ρ) : Cert P N ρ where
  f c K st := match mvs k c K with
    | some (.at e, K') => match can N st live ids with
      | some s => (leafX P K' y e s, some y)
      | none => badX
    | _ => badX
  ok c K st hx r hr := by
    split at hx
    · rename_i e K' hm
      split at hx
      · rename_i s hs
        simp only [hm, hs, Option.some.injEq] at hr
        subst hr
        exact mvs_sound hm fun E τ S a w hE hc => ⟨τ, S, s, leafX_ok K' _ e s hx, hc.can (hE ▸ hs)⟩
      · exact hx.elim
    · exact hx.elim
end
end Go.Abs
