/- DERIVED. Own theory, part 2: operations that leave memory alone, evaluated over abstract values. -/
import Derived.Test.YtlhiaclmbegaiaaGreatA1
import Derived.ChangeKeysEq
set_option linter.unusedVariables false
set_option linter.unusedSimpArgs false
namespace Go.Abs

def pureV (P : Program) {α : Type} : Sem α → Option α
  | .pure a => some a
  | .program k => pureV P (k P)
  | _ => none
theorem pureV_run {P : Program} {α : Type} : ∀ {s : Sem α} {a : α}, pureV P s = some a → ∀ w, s.run P w = .ok a w
  | .pure b, a, h, w => by simp [pureV] at h; subst h; rfl
  | .program k, a, h, w => by simp only [pureV] at h; exact pureV_run (s := k P) h w
  | .load .., _, h, _ => by simp [pureV] at h
  | .store .., _, h, _ => by simp [pureV] at h
  | .new .., _, h, _ => by simp [pureV] at h
  | .shape .., _, h, _ => by simp [pureV] at h
  | .freeze .., _, h, _ => by simp [pureV] at h
  | .frozen .., _, h, _ => by simp [pureV] at h
  | .getObj .., _, h, _ => by simp [pureV] at h
  | .setObj .., _, h, _ => by simp [pureV] at h
  | .choose .., _, h, _ => by simp [pureV] at h
  | .sys .., _, h, _ => by simp [pureV] at h
  | .mark .., _, h, _ => by simp [pureV] at h
  | .halt .., _, h, _ => by simp [pureV] at h

/-- What is owed: nothing, or a fact. -/
abbrev Ob := Option Prop
def ob : Ob → Prop
  | none => True
  | some p => p
def obAnd : Ob → Ob → Ob
  | none, q => q
  | some p, none => some p
  | some p, some q => some (p ∧ q)
theorem obAnd_iff : ∀ {p q : Ob}, ob (obAnd p q) → ob p ∧ ob q
  | none, _, h => ⟨trivial, h⟩
  | some _, none, h => ⟨h, trivial⟩
  | some _, some _, h => h

abbrev xv (x : Value) : AV := .c (.d (.v x))
abbrev xi (n : Int) : AV := .c (.d (.v (.int .i64 n)))
abbrev xb (b : Bool) : AV := .c (.d (.v (.bool b)))
abbrev xs (s : ByteArray) : AV := .c (.d (.v (.string s)))

def opA (fr : List (Nat × AV)) : Operand → AV
  | .tmp t => lk fr t
  | .const v => xv v
  | .func f => xv (.func (.func f) #[] #[])
  | .global _ => .dead
theorem Cfg.opA {E τ S st a w} (h : Cfg E τ S st a w) (x : Operand) : RelA τ S w (opA st.fr x) (a.eval x) := by
  cases x with
  | tmp t => exact h.lk t
  | const v => exact rfl
  | global g => trivial
  | func f => exact rfl

/-- An operation answers a value that fits; memory stays. -/
def Ans (P : Program) (ρ : Operand → Value) (o : Oper) (τ : Nat → Value) (S : Nat → Prop) (w : World) (v : AV) : Prop :=
  ∃ y, (execOp ρ o).run P w = .ok (.value y) w ∧ RelA τ S w v y

def bt (s : ByteArray) (i : Int) : Int := ((s.data.toList.getD i.toNat 0).toNat : Int)

/-! ### Two operands -/
def exVs : List C → Option (List Value)
  | [] => some []
  | .d (.v x) :: l => (exVs l).map (x :: ·)
  | _ :: _ => none
theorem exVs_rel {τ S w} : ∀ {l : List C} {us xs : List Value}, exVs l = some xs → RelCs τ S w l us → us = xs
  | [], [], _, h, _ => by simp [exVs] at h; subst h; rfl
  | [], _ :: _, _, _, h => h.elim
  | _ :: _, [], _, _, h => h.elim
  | c :: cs, u :: us, xs, h, ⟨⟨_, h2⟩, h3⟩ => by
    unfold exVs at h
    split at h
    · cases ‹_ :: _ = []›
    · rename_i x l he
      simp only [List.cons.injEq] at he
      obtain ⟨rfl, rfl⟩ := he
      cases hq : exVs cs with
      | none => simp [hq] at h
      | some r =>
        simp only [hq, Option.map_some, Option.some.injEq] at h
        subst h
        rw [exVs_rel hq h3, show u = x from h2]
    · cases h
def eqCell (P : Program) (e : TypeId) : Value → Value → Option Bool
  | .bool a, .bool b => match P.underlying e with | some .bool => some (a == b) | _ => none
  | .int k a, .int k' b => match P.underlying e with | some (.int _) => if k = k' then some (a == b) else none | _ => none
  | .string a, .string b => match P.underlying e with | some .string => some (a.toList == b.toList) | _ => none
  | _, _ => none
theorem eqCell_run {P : Program} {e : TypeId} {a b : Value} {r : Bool} (h : eqCell P e a b = some r) (d : Nat) (w : World) : P.plainKey e = true ∧ (Op.equalIn (d + 1) e a b).run P w = .ok r w := by
  unfold eqCell at h
  split at h
  · split at h
    · rename_i hu
      cases h
      exact ⟨by simp [Program.plainKey, hu], run_equalIn_bool w d e _ _ hu⟩
    · cases h
  · split at h
    · rename_i hu
      split at h
      · rename_i hk
        subst hk
        cases h
        exact ⟨by simp [Program.plainKey, hu], run_equalIn_int w d e _ _ _ _ hu⟩
      · cases h
    · cases h
  · split at h
    · rename_i hu
      cases h
      exact ⟨by simp [Program.plainKey, hu], run_equalIn_string w d e _ _ hu⟩
    · cases h
  · cases h
def eqFs (P : Program) (xs ys : List Value) : List Field → Option Bool
  | [] => some true
  | f :: fs => match xs[f.offset]?, ys[f.offset]? with
    | some a, some b => match eqCell P f.type a b, eqFs P xs ys fs with
      | some r, some q => if f.name = "_" then none else some (r && q)
      | _, _ => none
    | _, _ => none
theorem eqFs_run {P : Program} {xs ys : List Value} (d : Nat) (w : World) : ∀ {fs : List Field} {r : Bool}, eqFs P xs ys fs = some r → (Op.eqFields (d + 1) xs.toArray ys.toArray fs).run P w = .ok r w
  | [], r, h => by simp [eqFs] at h; subst h; simp [Op.eqFields]
  | f :: fs, r, h => by
    unfold eqFs at h
    split at h
    · rename_i a b ha hb
      split at h
      · rename_i r1 q h1 h2
        split at h
        · cases h
        · rename_i hn
          cases h
          obtain ⟨hp, hr⟩ := eqCell_run h1 d w
          have e1 : (part f.type xs.toArray f.offset).run P w = .ok a w := run_part_plain w hp (by simpa using ha)
          have e2 : (part f.type ys.toArray f.offset).run P w = .ok b w := run_part_plain w hp (by simpa using hb)
          simp only [Op.eqFields, hn, ne_eq, not_false_eq_true, if_true, Sem.run_bind, e1, e2, hr, Result.andThen_ok]
          cases r1
          · simp
          · simp [eqFs_run d w h2]
      · cases h
    · cases h
def eqS (P : Program) (t : TypeId) (xs ys : List Value) : Option Bool :=
  match P.underlying t with
  | some (.struct fs) => match P.stoodInHeld t, P.eqGuardType P.depth t with
    | false, false => eqFs P xs ys fs.toList
    | _, _ => none
  | _ => none
theorem eqS_run {P : Program} {t : TypeId} {xs ys : List Value} {r : Bool} (h : eqS P t xs ys = some r) (op : BinOp) (x y : Operand) (w : World) :
    (eqGuard op t x y (.agg xs.toArray) (.agg ys.toArray)).run P w = .ok () w ∧ (Op.equalIn 10000 t (.agg xs.toArray) (.agg ys.toArray)).run P w = .ok r w := by
  unfold eqS at h
  split at h
  · rename_i fs hu
    split at h
    · rename_i h1 h2
      refine ⟨run_eqGuard_agg w op t x y _ _ h2, ?_⟩
      have hf : P.fieldsOf t = fs := by simp [Program.fieldsOf, hu]
      rw [show (10000 : Nat) = 9999 + 1 from rfl, run_equalIn_struct w 9999 t _ _ (by rw [hf]; exact hu) h1, hf]
      exact eqFs_run 9998 w h
    · cases h
  · cases h
def xBin (P : Program) (op : BinOp) (t : TypeId) (x y : Operand) : AV → AV → Option (Ob × AV)
  | .c (.d (.v u)), .c (.d (.v v)) =>
    match op, u, v with
    | .quo, .int k a, .int k' b => if k = k' then some (some (b ≠ 0), xv (.int k (k.wrap (a.tdiv b)))) else none
    | .rem, .int k a, .int k' b => if k = k' then some (some (b ≠ 0), xv (.int k (a.tmod b))) else none
    | .shl, .int k a, .int _ b => some (some (0 ≤ b), xv (.int k (k.wrap (a * 2 ^ (min b.toNat k.bits)))))
    | .shr, .int k a, .int _ b => some (some (0 ≤ b), xv (.int k (a.fdiv (2 ^ (min b.toNat k.bits)))))
    | .add, .string a, .string b => some (some (a.size + b.size ≤ 9223372036854775807), xs (a ++ b))
    | op, u, v => (pureV P (do eqGuard op t x y u v; binOp op t u v)).map fun r => (none, xv r)
  | .agg l1, .agg l2 =>
    match exVs l1, exVs l2 with
    | some us, some vs => match op, eqS P t us vs with
      | .eql, some r => some (none, xb r)
      | .neq, some r => some (none, xb (!r))
      | _, _ => none
    | _, _ => none
  | _, _ => none

theorem xBin_sound {P : Program} {op : BinOp} {t ty : TypeId} {x y : Operand} {av bv r : AV} {p : Ob} {ρ : Operand → Value} {τ S w}
    (h : xBin P op t x y av bv = some (p, r)) (hp : ob p) (hx : RelA τ S w av (ρ x)) (hy : RelA τ S w bv (ρ y)) {o : Oper} (ho : o.op = .binOp op t x y ty) : Ans P ρ o τ S w r := by
  unfold xBin at h
  split at h
  · rename_i u v
    have hx' : ρ x = u := hx
    have hy' : ρ y = v := hy
    unfold Ans execOp
    simp only [ho, hx', hy']
    split at h
    · split at h
      · rename_i b hk; subst hk
        simp only [Option.some.injEq, Prod.mk.injEq] at h
        obtain ⟨rfl, rfl⟩ := h
        have hp : b ≠ 0 := hp
        exact ⟨_, by simp [binOp, Op.intDiv, hp, eqGuard_at_int], rfl⟩
      · cases h
    · split at h
      · rename_i b hk; subst hk
        simp only [Option.some.injEq, Prod.mk.injEq] at h
        obtain ⟨rfl, rfl⟩ := h
        have hp : b ≠ 0 := hp
        exact ⟨_, by simp [binOp, Op.intDiv, hp, eqGuard_at_int], rfl⟩
      · cases h
    · simp only [Option.some.injEq, Prod.mk.injEq] at h
      obtain ⟨rfl, rfl⟩ := h
      exact ⟨_, by simp [binOp, Op.shift, Int.not_lt.2 (show 0 ≤ _ from hp), eqGuard_at_int], rfl⟩
    · simp only [Option.some.injEq, Prod.mk.injEq] at h
      obtain ⟨rfl, rfl⟩ := h
      exact ⟨_, by simp [binOp, Op.shift, Int.not_lt.2 (show 0 ≤ _ from hp), eqGuard_at_int], rfl⟩
    · simp only [Option.some.injEq, Prod.mk.injEq] at h
      obtain ⟨rfl, rfl⟩ := h
      refine ⟨_, ?_, rfl⟩
      simp only [ob] at hp
      simp [binOp, Op.stringOp, eqGuard_at_string]
      omega
    · cases hq : pureV P (do eqGuard op t x y u v; binOp op t u v) with
      | none => simp [hq] at h
      | some z =>
        simp only [hq, Option.map_some, Option.some.injEq, Prod.mk.injEq] at h
        obtain ⟨rfl, rfl⟩ := h
        refine ⟨z, ?_, rfl⟩
        simp only [Sem.run_bind, pureV_run hq w, Result.andThen_ok]
        rfl
  · rename_i l1 l2
    split at h
    · rename_i us vs h1 h2
      obtain ⟨us', hx', hr1⟩ := hx
      obtain ⟨vs', hy', hr2⟩ := hy
      have := exVs_rel h1 hr1
      subst this
      have := exVs_rel h2 hr2
      subst this
      unfold Ans execOp
      simp only [ho, hx', hy']
      split at h
      · rename_i r hq
        simp only [Option.some.injEq, Prod.mk.injEq] at h
        obtain ⟨rfl, rfl⟩ := h
        obtain ⟨g1, g2⟩ := eqS_run hq .eql x y w
        exact ⟨.bool r, by simp only [Sem.run_bind, g1, Result.andThen_ok, run_eql_struct, g2]; rfl, rfl⟩
      · rename_i r hq
        simp only [Option.some.injEq, Prod.mk.injEq] at h
        obtain ⟨rfl, rfl⟩ := h
        obtain ⟨g1, g2⟩ := eqS_run hq .neq x y w
        exact ⟨.bool (!r), by simp only [Sem.run_bind, g1, Result.andThen_ok, run_neq_struct, g2]; rfl, rfl⟩
      · cases h
    · cases h
  · cases h

/-! ### Places -/
def fieldOf (P : Program) (s f : Nat) : Option Nat :=
  match P.underlying s with
  | some (.struct fields) => match fields[f]? with
    | some fd => match P.info? fd.type with
      | some i => if i.size = 0 then none else some fd.offset
      | none => none
    | none => none
  | _ => none

def xField (P : Program) (s f : Nat) : AV → Option (Ob × AV)
  | .c (.d (.rp n g)) => (fieldOf P s f).bind fun o => if o ≤ n then some (none, .c (.d (.rp (n - o) fun j => g (o + j)))) else none
  | .c (.np id sz i j) => (fieldOf P s f).map fun o => (none, .c (.np id sz i (j + o)))
  | _ => none

theorem fieldOf_run {P : Program} {s f o : Nat} (h : fieldOf P s f = some o) (b k : Nat) (w : World) :
    (Instr.fieldAt s (.pointer (some ⟨b, k, none⟩)) f).run P w = .ok (.pointer (some ⟨b, k + o, none⟩)) w := by
  unfold fieldOf at h
  split at h
  · rename_i fields hu
    split at h
    · rename_i fd hf
      split at h
      · rename_i i hi
        split at h
        · cases h
        · rename_i hz
          simp only [Option.some.injEq] at h
          subst h
          simp [Instr.fieldAt, run_underlying hu, hf, Instr.sureAddr, fieldPlace, sizeOf, typeInfo, hi, hz, Addr.add_lit]
      · cases h
    · cases h
  · cases h

theorem xField_sound {P : Program} {s f : Nat} {x : Operand} {av r : AV} {p : Ob} {ρ : Operand → Value} {τ S w}
    (h : xField P s f av = some (p, r)) (hx : RelA τ S w av (ρ x)) {o : Oper} (ho : o.op = .fieldAddr s x f) : Ans P ρ o τ S w r := by
  unfold xField at h
  split at h
  · rename_i n g
    cases hf : fieldOf P s f with
    | none => simp [hf] at h
    | some k =>
      simp only [hf, Option.bind_some] at h
      split at h
      · rename_i hle
        simp only [Option.some.injEq, Prod.mk.injEq] at h
        obtain ⟨rfl, rfl⟩ := h
        obtain ⟨b, k0, hy, hb, hc⟩ := hx
        refine ⟨.pointer (some ⟨b, k0 + k, none⟩), by simp [execOp, ho, hy, fieldOf_run hf b k0 w], b, k0 + k, rfl, hb, fun j hj => ?_⟩
        obtain ⟨u, h1, h2, h3⟩ := hc (k + j) (by omega)
        exact ⟨u, by rw [Nat.add_assoc]; exact h1, h2, h3⟩
      · cases h
  · rename_i id sz i j
    cases hf : fieldOf P s f with
    | none => simp [hf] at h
    | some k =>
      simp only [hf, Option.map_some, Option.some.injEq, Prod.mk.injEq] at h
      obtain ⟨rfl, rfl⟩ := h
      obtain ⟨b, hb, hy⟩ := hx
      exact ⟨.pointer (some ⟨b, i * sz + j + k, none⟩), by simp [execOp, ho, hy, fieldOf_run hf b _ w], b, hb, by rw [Nat.add_assoc]⟩
  · cases h

/-- The element type of a slice type and its cells. -/
def elemOfS (P : Program) (t : Nat) : Option Nat :=
  match P.underlying t with
  | some (.slice e) => (P.info? e).map (·.size)
  | _ => none
def elemOfA (P : Program) (t : Nat) : Option (Nat × Nat) :=
  match P.underlying t with
  | some (.array n e) => (P.info? e).map fun i => (n, i.size)
  | _ => none

def xIndexAddr (P : Program) (hp : List (Nat × Ct)) (t : Nat) : AV → AV → Option (Ob × AV)
  | .c (.d (.ro sz n g)), .c (.d (.v (.int _ i))) =>
    if elemOfS P t = some sz then some (some (0 ≤ i ∧ i < (n : Int)), .c (.d (.rp sz (g i.toNat)))) else none
  | .c (.nm id), .c (.d (.v (.int _ i))) =>
    match lkH hp id with
    | some (.rows _ sz n _) => if elemOfS P t = some sz then some (some (0 ≤ i ∧ i < (n : Int)), .c (.np id sz i.toNat 0)) else none
    | _ => none
  | .c (.ns id sz off n), .c (.d (.v (.int _ i))) =>
    if elemOfS P t = some sz then some (some (0 ≤ i ∧ i < (n : Int)), .c (.np id sz (off + i.toNat) 0)) else none
  | .c (.d (.v (.slice none 0 0))), .c (.d (.v (.int _ _))) => some (some False, .dead)
  | .c (.d (.rp n g)), .c (.d (.v (.int _ i))) =>
    match elemOfA P t with
    | some (m, sz) => if m * sz ≤ n then some (some (0 ≤ i ∧ i < (m : Int)), .c (.d (.rp sz fun j => g (i.toNat * sz + j)))) else none
    | none => none
  | .c (.np id z k j), .c (.d (.v (.int _ i))) =>
    match elemOfA P t with
    | some (m, sz) => some (some (0 ≤ i ∧ i < (m : Int)), .c (.np id z k (j + i.toNat * sz)))
    | none => none
  | _, _ => none

theorem HP.rows {τ S w hp id ety sz n g} (h : HP τ S w hp) (hl : lkH hp id = some (.rows ety sz n g)) :
    ∃ xs, OwnR w ety sz (τ id) n xs ∧ ∀ i, i < n → ∀ j, j < sz → ∃ u, xs[i * sz + j]? = some u ∧ u.oneCell' = true ∧ RelD S w (g i j) u :=
  h.ct (id, _) (lkH_mem hl)
theorem HP.box {τ S w hp id ety cs} (h : HP τ S w hp) (hl : lkH hp id = some (.box ety cs)) :
    ∃ b us, τ id = .slice (some ⟨b, 0, none⟩) 1 1 ∧ w.heap[b]? = some (.cells us.toArray ety (0, 0)) ∧ RelCs τ S w cs us :=
  h.ct (id, _) (lkH_mem hl)

theorem run_indexAt_S {P : Program} {t sz : Nat} (h : elemOfS P t = some sz) (b o len cap : Nat) (k : IntKind) (i : Int) (h0 : 0 ≤ i) (h1 : i < (len : Int)) (w : World) :
    (Instr.indexAt t (.slice (some ⟨b, o, none⟩) len cap) (.int k i)).run P w = .ok (.pointer (some ⟨b, o + i.toNat * sz, none⟩)) w := by
  unfold elemOfS at h
  split at h
  · rename_i e hu
    cases hi : P.info? e with
    | none => simp [hi] at h
    | some ii =>
      simp [hi] at h
      subst h
      simp [Instr.indexAt, asIntOf, run_underlying hu, sizeOf, typeInfo, hi, h0, h1, Addr.add_lit]
  · cases h
theorem run_indexAt_A {P : Program} {t m sz : Nat} (h : elemOfA P t = some (m, sz)) (b o : Nat) (k : IntKind) (i : Int) (h0 : 0 ≤ i) (h1 : i < (m : Int)) (w : World) :
    (Instr.indexAt t (.pointer (some ⟨b, o, none⟩)) (.int k i)).run P w = .ok (.pointer (some ⟨b, o + i.toNat * sz, none⟩)) w := by
  unfold elemOfA at h
  split at h
  · rename_i m' e hu
    cases hi : P.info? e with
    | none => simp [hi] at h
    | some ii =>
      simp [hi] at h
      obtain ⟨rfl, rfl⟩ := h
      simp [Instr.indexAt, asIntOf, run_underlying hu, sizeOf, typeInfo, hi, h0, h1, Addr.add_lit, Instr.sureAddr]
  · cases h

theorem xIndexAddr_sound {P : Program} {hp : List (Nat × Ct)} {t : Nat} {x ix : Operand} {av bv r : AV} {p : Ob} {ρ : Operand → Value} {τ S w}
    (h : xIndexAddr P hp t av bv = some (p, r)) (hpp : ob p) (hH : HP τ S w hp) (hx : RelA τ S w av (ρ x)) (hy : RelA τ S w bv (ρ ix)) {o : Oper} (ho : o.op = .indexAddr t x ix) : Ans P ρ o τ S w r := by
  unfold xIndexAddr at h
  split at h
  · rename_i sz n g k i
    split at h
    · rename_i he
      simp only [Option.some.injEq, Prod.mk.injEq] at h
      obtain ⟨rfl, rfl⟩ := h
      simp only [ob] at hpp
      obtain ⟨a, c, hv, hc, hcell⟩ := hx
      obtain ⟨b, o0, rfl, hb, hcell⟩ := hcell (by omega)
      have hyv : ρ ix = .int k i := hy
      refine ⟨_, by simp [execOp, ho, hv, hyv, run_indexAt_S he b o0 n c k i hpp.1 hpp.2 w]; rfl, b, _, rfl, hb, fun j hj => ?_⟩
      obtain ⟨u, h1, h2, h3⟩ := hcell i.toNat (by omega) j hj
      exact ⟨u, by rw [Nat.add_assoc]; exact h1, h2, h3⟩
    · cases h
  · rename_i id k i
    split at h
    · rename_i ety sz n g hl
      split at h
      · rename_i he
        simp only [Option.some.injEq, Prod.mk.injEq] at h
        obtain ⟨rfl, rfl⟩ := h
        simp only [ob] at hpp
        obtain ⟨xs, hown, hc⟩ := hH.rows hl
        have hv : ρ x = τ id := hx
        have hyv : ρ ix = .int k i := hy
        rcases hown.2 with ⟨hnil, hn0⟩ | ⟨b, cap, cur, fz, hb, hg, _⟩
        · omega
        · refine ⟨.pointer (some ⟨b, i.toNat * sz + 0, none⟩), ?_, b, by rw [hb]; rfl, rfl⟩
          simp [execOp, ho, hv, hyv, hb, run_indexAt_S he b 0 n cap k i hpp.1 hpp.2 w]
      · cases h
    · cases h
  · rename_i id sz off n k i
    split at h
    · rename_i he
      simp only [Option.some.injEq, Prod.mk.injEq] at h
      obtain ⟨rfl, rfl⟩ := h
      simp only [ob] at hpp
      obtain ⟨a, c, hv, hc, hpos, _⟩ := hx
      obtain ⟨b, hb, rfl⟩ := hpos (by omega)
      have hyv : ρ ix = .int k i := hy
      refine ⟨.pointer (some ⟨b, (off + i.toNat) * sz + 0, none⟩), ?_, b, hb, rfl⟩
      simp [execOp, ho, hv, hyv, run_indexAt_S he b (off * sz) n c k i hpp.1 hpp.2 w, Nat.add_mul]
    · cases h
  · simp only [Option.some.injEq, Prod.mk.injEq] at h
    obtain ⟨rfl, rfl⟩ := h
    exact hpp.elim
  · rename_i n g k i
    split at h
    · rename_i m sz he
      split at h
      · rename_i hle
        simp only [Option.some.injEq, Prod.mk.injEq] at h
        obtain ⟨rfl, rfl⟩ := h
        simp only [ob] at hpp
        obtain ⟨b, o0, hv, hb, hcell⟩ := hx
        have hyv : ρ ix = .int k i := hy
        refine ⟨_, by simp [execOp, ho, hv, hyv, run_indexAt_A he b o0 k i hpp.1 hpp.2 w]; rfl, b, _, rfl, hb, fun j hj => ?_⟩
        have hlt : i.toNat * sz + j < m * sz := by
          have : (i.toNat + 1) * sz ≤ m * sz := Nat.mul_le_mul_right _ (by omega)
          rw [Nat.add_mul, Nat.one_mul] at this
          omega
        obtain ⟨u, h1, h2, h3⟩ := hcell (i.toNat * sz + j) (by omega)
        exact ⟨u, by rw [Nat.add_assoc]; exact h1, h2, h3⟩
      · cases h
    · cases h
  · rename_i id z k j kk i
    split at h
    · rename_i m sz he
      simp only [Option.some.injEq, Prod.mk.injEq] at h
      obtain ⟨rfl, rfl⟩ := h
      simp only [ob] at hpp
      obtain ⟨b, hb, hv⟩ := hx
      have hyv : ρ ix = .int kk i := hy
      exact ⟨_, by simp [execOp, ho, hv, hyv, run_indexAt_A he b _ kk i hpp.1 hpp.2 w]; rfl, b, hb, by rw [Nat.add_assoc]⟩
    · cases h
  · cases h

/-! ### Loads -/
/-- A type's cells: none: one cell, loaded bare; some n: an aggregate of n cells. -/
def aggOf (P : Program) (t : Nat) : Option (Option Nat) :=
  match P.underlying t, P.info? t with
  | some (.struct _), some i | some (.array _ _), some i => some (some i.size)
  | some _, some _ => some none
  | _, _ => none

def takeC (f : Nat → C) (n : Nat) : List C := (List.range n).map f
def mkLoad (k : Option Nat) (f : Nat → C) : AV :=
  match k with
  | none => .c (f 0)
  | some n => .agg (takeC f n)
def needs (k : Option Nat) : Nat := k.getD 1

def xLoad (P : Program) (hp : List (Nat × Ct)) (t : Nat) : AV → Option (Ob × AV)
  | .c (.d (.rp n g)) => (aggOf P t).bind fun k => if needs k ≤ n then some (none, mkLoad k fun j => .d (g j)) else none
  | .c (.np id sz i j) =>
    (aggOf P t).bind fun k =>
    match lkH hp id with
    | some (.rows _ sz' n g) => if sz = sz' ∧ j + needs k ≤ sz then some (some (i < n), mkLoad k fun m => .d (g i (j + m))) else none
    | some (.box _ cs) => if i = 0 ∧ j + needs k ≤ cs.length then some (none, mkLoad k fun m => cs.getD (j + m) (.d (.v undef))) else none
    | none => none
  | _ => none

theorem loadVar_mk {P : Program} {t : Nat} {k : Option Nat} (h : aggOf P t = some k) (b o : Nat) (f : Nat → C) {τ S w}
    (hc : ∀ j, j < needs k → ∃ u, w.cell? ⟨b, o + j, none⟩ = some u ∧ u.oneCell' = true ∧ RelC τ S w (f j) u) :
    ∃ y, (loadVar t ⟨b, o, none⟩).run P w = .ok y w ∧ RelA τ S w (mkLoad k f) y := by
  have many : ∀ (d : TypeDesc) (i : TypeInfo), P.underlying t = some d → P.info? t = some i → d.isRow = true → k = some i.size →
      ∃ y, (loadVar t ⟨b, o, none⟩).run P w = .ok y w ∧ RelA τ S w (mkLoad k f) y := by
    intro d i hu hi hd hk
    subst hk
    have : ∃ us : List Value, us.length = i.size ∧ (∀ (j : Nat) (v : Value), us[j]? = some v → w.cell? ⟨b, o + j, none⟩ = some v) ∧ RelCs τ S w (takeC f i.size) us := by
      have gen : ∀ (l : List Nat), (∀ j ∈ l, j < i.size) → ∃ us : List Value, us.length = l.length ∧ (∀ (j : Nat) (v : Value), us[j]? = some v → ∃ m : Nat, l[j]? = some m ∧ w.cell? ⟨b, o + m, none⟩ = some v) ∧ RelCs τ S w (l.map f) us := by
        intro l
        induction l with
        | nil => exact fun _ => ⟨[], rfl, fun j v h => by simp at h, trivial⟩
        | cons m l ih =>
          intro hl
          obtain ⟨us, h1, h2, h3⟩ := ih fun j hj => hl j (List.mem_cons_of_mem _ hj)
          obtain ⟨u, hu1, hu2, hu3⟩ := hc m (hl m (by simp))
          refine ⟨u :: us, by simp [h1], fun j v hv => ?_, ⟨hu2, hu3⟩, h3⟩
          cases j with
          | zero => simp at hv; subst hv; exact ⟨m, by simp, hu1⟩
          | succ j => exact h2 j v (by simpa using hv)
      obtain ⟨us, h1, h2, h3⟩ := gen (List.range i.size) (fun j hj => by simpa using hj)
      refine ⟨us, by simpa using h1, fun j v hv => ?_, h3⟩
      obtain ⟨m, hm, hcell⟩ := h2 j v hv
      have hjl : j < i.size := by
        have := (List.getElem?_eq_some_iff.1 hv).1
        simp at h1; omega
      rw [List.getElem?_range hjl] at hm
      simp only [Option.some.injEq] at hm
      subst hm; exact hcell
    obtain ⟨us, h1, h2, h3⟩ := this
    exact ⟨.agg us.toArray, run_loadVar_mid w b o t us d h2 hu hd (by simp [hi, h1]), us, rfl, h3⟩
  unfold aggOf at h
  split at h
  · rename_i fs i hu hi
    simp only [Option.some.injEq] at h
    exact many _ i hu hi rfl h.symm
  · rename_i n e i hu hi
    simp only [Option.some.injEq] at h
    exact many _ i hu hi rfl h.symm
  · rename_i d i h1 h2 hi _
    simp only [Option.some.injEq] at h
    subst h
    obtain ⟨u, hu1, hu2, hu3⟩ := hc 0 (by simp [needs])
    have hagg : (isAgg t).run P w = .ok false w := by
      unfold isAgg
      rw [Sem.run_bind, run_underlying hi w]
      cases d <;> simp_all
    refine ⟨u, ?_, hu3⟩
    simp only [loadVar, Sem.run_bind, hagg, Result.andThen_ok, Bool.false_eq_true, if_false]
    rw [run_load]
    simp only [Nat.add_zero] at hu1
    simp [hu1]
  · cases h

theorem RelCs.at_ {τ S w} : ∀ {cs : List C} {us : List Value}, RelCs τ S w cs us → cs.length = us.length ∧ ∀ j, j < cs.length → ∃ u, us[j]? = some u ∧ u.oneCell' = true ∧ RelC τ S w (cs.getD j (.d (.v undef))) u
  | [], [], _ => ⟨rfl, fun j hj => by simp at hj⟩
  | [], _ :: _, h => h.elim
  | _ :: _, [], h => h.elim
  | c :: cs, u :: us, ⟨⟨h1, h2⟩, h3⟩ => by
    obtain ⟨hl, hat⟩ := RelCs.at_ h3
    refine ⟨by simp [hl], fun j hj => ?_⟩
    cases j with
    | zero => exact ⟨u, by simp, h1, by simpa using h2⟩
    | succ j =>
      obtain ⟨v, hv1, hv2, hv3⟩ := hat j (by simpa using hj)
      exact ⟨v, by simpa using hv1, hv2, by simpa using hv3⟩

theorem cell_of_heap {w : World} {b : Nat} {us : Array Value} {e : Nat} {fz : Nat × Nat} (h : w.heap[b]? = some (.cells us e fz)) (o : Nat) : w.cell? ⟨b, o, none⟩ = us[o]? := by
  simp [World.cell?, h]

theorem owns_cell {w : World} {ety sz n : Nat} {v : Value} {xs : List Value} (h : OwnR w ety sz v n xs) {b : Nat} (hb : v.ownBlock = some b) {k : Nat} {u : Value} (hk : xs[k]? = some u) : w.cell? ⟨b, k, none⟩ = some u := h.cells hb hk

theorem xLoad_sound {P : Program} {hp : List (Nat × Ct)} {t : Nat} {x : Operand} {av r : AV} {p : Ob} {ρ : Operand → Value} {τ S w}
    (h : xLoad P hp t av = some (p, r)) (hpp : ob p) (hH : HP τ S w hp) (hx : RelA τ S w av (ρ x)) {o : Oper} (ho : o.op = .load t x) : Ans P ρ o τ S w r := by
  unfold xLoad at h
  split at h
  · rename_i n g
    cases hk : aggOf P t with
    | none => simp [hk] at h
    | some k =>
      simp only [hk, Option.bind_some] at h
      split at h
      · rename_i hle
        simp only [Option.some.injEq, Prod.mk.injEq] at h
        obtain ⟨rfl, rfl⟩ := h
        obtain ⟨b, o0, hv, hb, hcell⟩ := hx
        obtain ⟨y, hy, hr⟩ := loadVar_mk (τ := τ) hk b o0 (fun j => .d (g j)) (fun j hj => hcell j (by omega))
        exact ⟨y, by simp [execOp, ho, hv, Instr.loadAt, Instr.sureAddr, hy], hr⟩
      · cases h
  · rename_i id sz i j
    cases hk : aggOf P t with
    | none => simp [hk] at h
    | some k =>
      simp only [hk, Option.bind_some] at h
      obtain ⟨b, hb, hv⟩ := hx
      split at h
      · rename_i ety sz' n g hl
        split at h
        · rename_i hc
          obtain ⟨rfl, hle⟩ := hc
          simp only [Option.some.injEq, Prod.mk.injEq] at h
          obtain ⟨rfl, rfl⟩ := h
          obtain ⟨xs, hown, hcell⟩ := hH.rows hl
          obtain ⟨y, hy, hr⟩ := loadVar_mk (τ := τ) (w := w) (S := S) hk b (i * sz + j) (fun m => .d (g i (j + m))) (fun m hm => by
            obtain ⟨u, h1, h2, h3⟩ := hcell i hpp (j + m) (by omega)
            exact ⟨u, owns_cell hown hb (by rw [Nat.add_assoc]; exact h1), h2, h3⟩)
          exact ⟨y, by simp [execOp, ho, hv, Instr.loadAt, Instr.sureAddr, hy], hr⟩
        · cases h
      · rename_i ety cs hl
        split at h
        · rename_i hc
          obtain ⟨rfl, hle⟩ := hc
          simp only [Option.some.injEq, Prod.mk.injEq] at h
          obtain ⟨rfl, rfl⟩ := h
          obtain ⟨b', us, hτ, hh, hrc⟩ := hH.box hl
          rw [hτ] at hb
          obtain rfl : b' = b := by simpa [Value.ownBlock] using hb
          obtain ⟨hlen, hat⟩ := hrc.at_
          obtain ⟨y, hy, hr⟩ := loadVar_mk (τ := τ) (w := w) (S := S) hk b' (0 * sz + j) (fun m => cs.getD (j + m) (.d (.v undef))) (fun m hm => by
            obtain ⟨u, h1, h2, h3⟩ := hat (j + m) (by omega)
            exact ⟨u, by rw [cell_of_heap hh]; simpa using h1, h2, h3⟩)
          refine ⟨y, ?_, hr⟩
          simp only [Nat.zero_mul, Nat.zero_add] at hy
          simp [execOp, ho, hv, Instr.loadAt, Instr.sureAddr, hy]
        · cases h
      · cases h
  · cases h

end Go.Abs
