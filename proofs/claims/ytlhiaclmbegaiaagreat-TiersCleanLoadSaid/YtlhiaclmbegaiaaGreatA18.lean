/- DERIVED. Own theory, part 18: certificates of single operations and of states bent. -/
import Derived.Test.YtlhiaclmbegaiaaGreatA17
set_option linter.unusedVariables false
set_option linter.unusedSimpArgs false
namespace Go.Abs
section
variable {P : Program} {N : Nat} {ρ : Type}

theorem W.sim {c : Cur} {Q : Exit → ASt → Prop} {st st' : ASt} (h : ∀ E τ S a w, E.N = N → Cfg E τ S st a w → ∃ τ' S', Cfg E τ' S' st' a w) (k : W P N c Q st') : W P N c Q st := by
  cases c <;> exact fun E τ S a w hE hc => by
    obtain ⟨τ', S', hc'⟩ := h E τ S a w hE hc
    exact k E τ' S' a w hE hc'
/-- A step: from a place and a state to the next ones. -/
structure Step (P : Program) (N : Nat) where
  f : Cur → ASt → X × Option (Cur × ASt)
  ok : ∀ c st c' st', (f c st).2 = some (c', st') → (f c st).1.ok →
    (∃ ops i l, c = .ops ops (i :: l) ∧ c' = .ops ops l ∧ ∀ l Q, WO P N ops l st' Q → WO P N ops (i :: l) st Q) ∨
    (∃ id ops, c = .code (.region id ops true) ∧ c' = .ops ops [] ∧ ∀ Q, WO P N ops [] st' Q → WPA P N (.region id ops true) st Q) ∨
    (c' = c ∧ ∀ E τ S a w, E.N = N → Cfg E τ S st a w → ∃ τ' S', Cfg E τ' S' st' a w)
def Cert.s (x : Step P N) (z : Cert P N ρ) : Cert P N ρ where
  f c K st := match x.f c st with
    | (y, some (c', st')) => (.and y (z.f c' K st').1, (z.f c' K st').2)
    | _ => badX
  ok c K st hx r hr := by
    split at hx
    · rename_i y c' st' he
      simp only [he] at hr
      obtain ⟨h1, h2⟩ := hx
      have hz := z.ok _ _ _ h2 r hr
      rcases x.ok c st c' st' (by rw [he]) (by rw [he]; exact h1) with ⟨ops, i, l, rfl, rfl, h⟩ | ⟨id, ops, rfl, rfl, h⟩ | ⟨rfl, h⟩
      · exact h l _ hz
      · exact h _ hz
      · exact W.sim h hz
    · exact hx.elim
/-- A state is bent. -/
def Step.tr (x : ASt → X) (g : ASt → ASt) (hg : ∀ st, (x st).ok → ∀ E τ S a w, E.N = N → Cfg E τ S st a w → ∃ τ' S', Cfg E τ' S' (g st) a w) : Step P N where
  f c st := (x st, some (c, g st))
  ok c st c' st' h hx := by
    cases h
    exact .inr (.inr ⟨rfl, hg st hx⟩)
def isS {α : Type} (o : Option α) : X := match o with | some _ => .nil | none => .bad
def Step.cn (live ids : List Nat) : Step P N := .tr (fun st => isS (can N st live ids)) (fun st => (can N st live ids).getD st) (fun st hx E τ S a w hE hc => by
  cases h : can N st live ids with
  | none => rw [h] at hx; exact hx.elim
  | some s => exact ⟨τ, S, hc.can (hE ▸ h)⟩)
def Step.fz (id : Nat) : Step P N := .tr (fun st => isS (frzOf st id)) (fun st => (frzOf st id).getD st) (fun st hx E τ S a w hE hc => by
  cases h : frzOf st id with
  | none => rw [h] at hx; exact hx.elim
  | some s =>
    unfold frzOf at h
    split at h
    · rename_i hl
      cases h
      exact ⟨τ, _, hc.freeze hl⟩
    · cases h)
def Step.rn (x y : Nat) : Step P N := .tr (fun st => .eq (decide (newId ≤ y) && (frFresh y st.fr && hpFresh y st.hp)) true) (fun st => ⟨renFr (ren1 x y) st.fr, renHp (ren1 x y) st.hp⟩) (fun st hx E τ S a w hE hc => by
  have hx : (decide (newId ≤ y) && (frFresh y st.fr && hpFresh y st.hp)) = true := hx
  simp only [Bool.and_eq_true, decide_eq_true_eq] at hx
  exact ⟨_, S, hc.rename hx.1 hx.2.1 hx.2.2⟩)
def Step.own (t id ety sz : Nat) (g : Nat → Nat → DV) : Step P N := .tr (fun st => .and (.eq (lk st.fr t) (xv (.slice none 0 0))) (.eq (ownChk N st t id) true)) (fun st => ⟨putF st.fr (some t) (.c (.nm id)), (id, .rows ety sz 0 g) :: st.hp⟩) (fun st hx E τ S a w hE hc => by
  obtain ⟨h1, h2⟩ := hx
  have h2 : ownChk N st t id = true := h2
  simp only [ownChk, Bool.and_eq_true, decide_eq_true_eq] at h2
  exact ⟨_, S, hc.ownNil (hE ▸ Nat.blt_eq.mp h2.1) h1 h2.2.1 h2.2.2.1 h2.2.2.2⟩)
def Step.imp (t : Nat) {a : AV} (v : AV) (hi : AImp a v) : Step P N := .tr (fun st => .and (.eq (Nat.blt t N) true) (.eq (lk st.fr t) a)) (fun st => ⟨putF st.fr (some t) v, st.hp⟩) (fun st hx E τ S a w hE hc => by
  obtain ⟨h1, h2⟩ := hx
  exact ⟨τ, S, hc.impA (hE ▸ Nat.blt_eq.mp h1) (by rw [show lk st.fr t = _ from h2]; exact hi)⟩)
def Step.impB (id ety : Nat) (cs cs' : List C) (hi : CsImp cs cs') : Step P N := .tr (fun st => .eq (boxOf st.hp id) (some (ety, cs))) (fun st => ⟨st.fr, setHp st.hp id (.box ety cs')⟩) (fun st hx E τ S a w hE hc => ⟨τ, S, hc.impB (boxOf_eq hx) hi⟩)

/-- One operation by a rule of its own. -/
def Step.op (x : Array Oper → Oper → ASt → X) (g : Array Oper → Oper → ASt → ASt)
    (hg : ∀ ops o i l st Q, ops[i]? = some o → (x ops o st).ok → WO P N ops l (g ops o st) Q → WO P N ops (i :: l) st Q) : Step P N where
  f c st := match c with
    | .ops ops (i :: l) => match ops[i]? with
      | some o => (x ops o st, some (.ops ops l, g ops o st))
      | none => (.bad, none)
    | _ => (.bad, none)
  ok c st c' st' h hx := by
    split at h
    · rename_i ops i l
      simp only at hx
      split at h
      · rename_i o ho
        simp only [ho] at hx
        cases h
        exact .inl ⟨ops, i, l, rfl, rfl, fun l Q k => hg ops o i l st Q ho hx k⟩
      · cases h
    · cases h

def callOf (o : Oper) : Call := match o.op with | .call c => c | _ => ⟨default, #[], #[]⟩
def isCall (o : Oper) : X := match o.op with | .call _ => .nil | _ => .bad
theorem isCall_eq {o : Oper} (h : (isCall o).ok) : o.op = .call (callOf o) := by
  unfold isCall at h
  unfold callOf
  split at h
  · rename_i c hc; rw [hc]
  · exact h.elim
def arg0 (o : Oper) (k : Nat) : Operand := (callOf o).args.toList.getD k (.const undef)
def typ0 (o : Oper) (k : Nat) : Nat := (callOf o).argTypes.toList.getD k 0

/-- What each append asks: two operands, no condition. -/
def appX (o : Oper) : X := .and (isCall o) (.and (.eq (callOf o).callee (.builtin .append)) (.and (.eq o.guard none) (.and (.eq (callOf o).args.toList [arg0 o 0, arg0 o 1]) (.eq (callOf o).argTypes.toList [typ0 o 0, typ0 o 1]))))
def appF (P : Program) (N : Nat) (o : Oper) (st : ASt) (ety sz B id : Nat) : Bool := appChk P (typ0 o 0) (typ0 o 1) ety sz B && (decide (newId ≤ id) && (frFresh id st.fr && (hpFresh id st.hp && dstOk N o.dst)))
def appR {α : Type} [Inhabited α] (f : α → Nat → DV) (ety sz id : Nat) (L : List α) (o : Oper) (st : ASt) : ASt := ⟨putF st.fr o.dst (.c (.nm id)), (id, .rows ety sz L.length (gT f L)) :: delS st.hp (opA st.fr (arg0 o 0))⟩
def Step.appL {α : Type} [Inhabited α] (f : α → Nat → DV) (L L2 : List α) (g : Nat → Nat → DV) (hgl : L = [] ∨ g = gT f L) (ety sz B id : Nat) (hb : (L.length + L2.length) * B ≤ 140737488355328) : Step P N :=
  .op (fun _ o st => .and (appX o) (.and (.eq (ownOf st.hp ety sz (opA st.fr (arg0 o 0))) (some (L.length, g))) (.and (.eq (srcOf P st.hp (typ0 o 1) sz (opA st.fr (arg0 o 1))) (some (L2.length, gT f L2))) (.eq (appF P N o st ety sz B id) true))))
    (fun _ o st => appR f ety sz id (L ++ L2) o st)
    (fun ops o i l st Q ho hx k => WO.appL f id ho (isCall_eq hx.1.1) hx.1.2.1 hx.1.2.2.2.1 hx.1.2.2.2.2 hx.1.2.2.1 hx.2.1 hgl hx.2.2.1 (fun _ _ _ _ => rfl) hx.2.2.2 hb k)
theorem one_of {α : Type} {sz : Nat} {f : α → Nat → DV} {y : α} {o : Option (Nat × (Nat → Nat → DV))} (h : (o.map fun r => (r.1, (List.range sz).map (r.2 0))) = some (1, (List.range sz).map (f y))) :
    ∃ gx, o = some (1, gx) ∧ (List.range sz).map (gx 0) = (List.range sz).map (f y) := by
  cases o with
  | none => cases h
  | some r =>
    simp only [Option.map_some, Option.some.injEq, Prod.mk.injEq] at h
    obtain ⟨n, g⟩ := r
    obtain ⟨h1, h2⟩ := h
    subst h1
    exact ⟨g, rfl, h2⟩
def Step.app1 {α : Type} [Inhabited α] (f : α → Nat → DV) (L : List α) (y : α) (g : Nat → Nat → DV) (hgl : L = [] ∨ g = gT f L) (ety sz B id : Nat) (hb : (L.length + 1) * B ≤ 140737488355328) : Step P N :=
  .op (fun _ o st => .and (appX o) (.and (.eq (ownOf st.hp ety sz (opA st.fr (arg0 o 0))) (some (L.length, g))) (.and (.eq ((srcOf P st.hp (typ0 o 1) sz (opA st.fr (arg0 o 1))).map fun r => (r.1, (List.range sz).map (r.2 0))) (some (1, (List.range sz).map (f y)))) (.eq (appF P N o st ety sz B id) true))))
    (fun _ o st => appR f ety sz id (L ++ [y]) o st)
    (fun ops o i l st Q ho hx k => by
      obtain ⟨gx, h1, h2⟩ := one_of hx.2.2.1
      exact WO.app1 f y id ho (isCall_eq hx.1.1) hx.1.2.1 hx.1.2.2.2.1 hx.1.2.2.2.2 hx.1.2.2.1 hx.2.1 hgl h1 h2 hx.2.2.2 hb k)
def Step.appS (s : ByteArray) (L : List Int) (g : Nat → Nat → DV) (hgl : L = [] ∨ g = gT fU8 L) (ety B id : Nat) (hb : (L.length + (strL s).length) * B ≤ 140737488355328) : Step P N :=
  .op (fun _ o st => .and (appX o) (.and (.eq (ownOf st.hp ety 1 (opA st.fr (arg0 o 0))) (some (L.length, g))) (.and (.eq (srcOf P st.hp (typ0 o 1) 1 (opA st.fr (arg0 o 1))) (some (s.size, fun i _ => .v (.int .u8 (bt s i))))) (.eq (appF P N o st ety 1 B id) true))))
    (fun _ o st => appR fU8 ety 1 id (L ++ strL s) o st)
    (fun ops o i l st Q ho hx k => WO.appS s id ho (isCall_eq hx.1.1) hx.1.2.1 hx.1.2.2.2.1 hx.1.2.2.2.2 hx.1.2.2.1 hx.2.1 hgl hx.2.2.1 hx.2.2.2 hb k)

/-- A call, by its contract. -/
def callNm (old new : List (Nat × Nat)) (hp0 : List (Nat × Ct)) : Nat → Nat := asc (new ++ (hp0.map fun p => (p.1, asc old p.1)))
def lkEq (st : List (Nat × Ct)) (ρ : Nat → Nat) (hp0 : List (Nat × Ct)) : X := .eq (hp0.map fun p => lkH st (ρ p.1)) (hp0.map fun p => some (renCt ρ p.2))
theorem lkEq_all {st : List (Nat × Ct)} {ρ : Nat → Nat} : ∀ {hp0 : List (Nat × Ct)}, (lkEq st ρ hp0).ok → lkAll st ρ hp0
  | [], _ => trivial
  | (i, c) :: r, h => by
    have h : (((i, c) :: r).map fun p => lkH st (ρ p.1)) = (((i, c) :: r).map fun p => some (renCt ρ p.2)) := h
    simp only [List.map_cons, List.cons.injEq] at h
    exact ⟨h.1, lkEq_all (hp0 := r) h.2⟩
def fnOf (o : Oper) : Nat := match (callOf o).callee with | .value (.func f) => f | _ => 0
def Step.call {args : List AV} {hp0 hp' : List (Nat × Ct)} {res : AV} {f : FuncId} (old new : List (Nat × Nat)) (spec : Spec P f args hp0 res hp') : Step P N :=
  .op (fun _ o st => .and (isCall o) (.and (.eq (callOf o).callee (.value (.func f))) (.and (.eq o.guard none) (.and (.eq (callable P f) true) (.and (.eq ((callOf o).args.toList.map (opA st.fr)) (args.map (renA (asc old)))) (.and (lkEq st.hp (asc old) hp0)
      (.eq (nodupB (hp0.map fun p => asc old p.1) && (freshAll st new && ((hp0.all fun p => decide (p.1 < newId)) && (avIn (new ++ (hp0.map fun p => (p.1, asc old p.1))) res && (hpIn (new ++ (hp0.map fun p => (p.1, asc old p.1))) hp' && dstOk N o.dst))))) true)))))))
    (fun _ o st => ⟨putF st.fr o.dst (renA (asc (new ++ (hp0.map fun p => (p.1, asc old p.1)))) res), renHp (asc (new ++ (hp0.map fun p => (p.1, asc old p.1)))) hp' ++ delAll st.hp (hp0.map fun p => asc old p.1)⟩)
    (fun ops o i l st Q ho hx k => WO.call old new ho (isCall_eq hx.1) hx.2.1 hx.2.2.1 hx.2.2.2.1 spec hx.2.2.2.2.1 (lkEq_all hx.2.2.2.2.2.1) hx.2.2.2.2.2.2 k)

/-- A call under a condition. -/
noncomputable def Cert.callG {α : Type} {args : List AV} {hp0 : List (Nat × Ct)} {hp' : α → List (Nat × Ct)} {res : α → AV} {f : FuncId} (g : Bool) (m : Option α) (d : α) (old : List (Nat × Nat)) (p : Ob) (hp : ob p) (spec : ∀ r, m = some r → Spec P f args hp0 (res r) (hp' r)) (z : α → Cert P N ρ) : Cert P N ρ where
  f c K st := match c with
    | .ops ops (i :: l) => match ops[i]? with
      | some o => (.and (.and (isCall o) (.and (.eq (callOf o).callee (.value (.func f))) (.and (.eq (guardOf st.fr ops o) (some (some g))) (.and (.eq (callable P f) true) (.and (.eq ((callOf o).args.toList.map fun x => stripA (opA st.fr x)) (args.map (renA (asc old)))) (.and (.eq (owes (some g) st.fr (callOf o).args.toList) p) (.and (lkEq st.hp (asc old) hp0)
            (.and (.eq (renHp (asc ((hp0.map fun p => (p.1, asc old p.1)))) (hp' d) ++ delAll st.hp (hp0.map fun p => asc old p.1)) st.hp)
            (.all fun r => (.eq (nodupB (hp0.map fun p => asc old p.1) && ((hp0.all fun p => decide (p.1 < newId)) && (avIn ((hp0.map fun p => (p.1, asc old p.1))) (res r) && (hpIn ((hp0.map fun p => (p.1, asc old p.1))) (hp' r) && dstOk N o.dst)))) true))))))))))
          (.all fun r => ((z r).f (.ops ops l) K ⟨putF st.fr o.dst (gdA (some g) (renA (asc ((hp0.map fun p => (p.1, asc old p.1)))) (res r))), renHp (asc ((hp0.map fun p => (p.1, asc old p.1)))) (hp' r) ++ delAll st.hp (hp0.map fun p => asc old p.1)⟩).1),
         bnd (_root_.cond g m (some d)) fun r => ((z r).f (.ops ops l) K ⟨putF st.fr o.dst (gdA (some g) (renA (asc ((hp0.map fun p => (p.1, asc old p.1)))) (res r))), renHp (asc ((hp0.map fun p => (p.1, asc old p.1)))) (hp' r) ++ delAll st.hp (hp0.map fun p => asc old p.1)⟩).2)
      | none => badX
    | _ => badX
  ok c K st hx r hr := by
    split at hx
    · rename_i ops i l
      split at hx
      · rename_i o ho
        simp only [ho] at hr
        obtain ⟨v, hv, hk⟩ := bindp_inv hr
        obtain ⟨⟨h1, h2, h3, h4, h5, h6, h7, h8, h9⟩, h10⟩ := hx
        have h8 : renHp (asc ((hp0.map fun p => (p.1, asc old p.1)))) (hp' d) ++ delAll st.hp (hp0.map fun p => asc old p.1) = st.hp := h8
        have kk := (z v).ok _ _ _ (h10 v) r hk
        cases g with
        | true =>
          have hm : m = some v := hv
          exact WO.callG (hp' := hp' v) (res := res v) true old ho (isCall_eq h1) h2 h3 h4 (fun _ => spec v hm) h5 p h6 hp (lkEq_all h7) (h9 v) rfl (fun _ => rfl) (fun h => by cases h) kk
        | false =>
          have hm : some d = some v := hv
          cases hm
          exact WO.callG (args := args) (hp0 := hp0) (hp' := hp' d) (res := res d) false old ho (isCall_eq h1) h2 h3 h4 (fun h => by cases h) h5 p h6 hp (lkEq_all h7) (h9 d) rfl (fun h => by cases h) (fun _ => h8) kk
      · exact hx.elim
    · exact hx.elim

/-- A store into a row. -/
def stTy (o : Oper) : Nat := match o.op with | .store t _ _ => t | _ => 0
def stX (o : Oper) : Operand := match o.op with | .store _ x _ => x | _ => .const undef
def stY (o : Oper) : Operand := match o.op with | .store _ _ y => y | _ => .const undef
def Step.stR {α : Type} [Inhabited α] (f : α → Nat → DV) (L : List α) (id ety sz k0 j : Nat) (nv : α) (hk0 : k0 < L.length) : Step P N :=
  .op (fun _ o st => .and (.eq o.op (.store (stTy o) (stX o) (stY o))) (.and (.eq o.guard none) (.and (.eq (opA st.fr (stX o)) (.c (.np id sz k0 j))) (.and (.eq (lkH st.hp id) (some (.rows ety sz L.length (gT f L))))
      (match (avCells st.hp (opA st.fr (stY o))).bind dataOf with
        | some ds => .and (.eq (decide ((P.info? (stTy o)).map (·.size) = some ds.length) && (decide (j + ds.length ≤ sz) && dstOk N o.dst)) true) (.eq ((List.range sz).map (f nv)) ((List.range sz).map fun j' => if j ≤ j' ∧ j' < j + ds.length then ds.getD (j' - j) (.v undef) else f (L.getD k0 default) j'))
        | none => .bad)))))
    (fun _ o st => ⟨putF st.fr o.dst .dead, setHp st.hp id (.rows ety sz (L.set k0 nv).length (gT f (L.set k0 nv)))⟩)
    (fun ops o i l st Q ho hx k => by
      obtain ⟨h1, h2, h3, h4, h5⟩ := hx
      split at h5
      · rename_i ds hds
        cases hv : avCells st.hp (opA st.fr (stY o)) with
        | none => simp [hv] at hds
        | some vs =>
          simp only [hv, Option.bind_some] at hds
          exact WO.storeR nv ho h1 h2 h3 h4 hv hds hk0 h5.1 h5.2 k
      · exact h5.elim)
def Step.make {α : Type} [Inhabited α] (f : α → Nat → DV) (z0 : α) (n : Int) (ety sz B id : Nat) (hn : 0 ≤ n) (hb : n * B ≤ 140737488355328) : Step P N :=
  .op (fun _ o st => match o.op with
      | .makeSlice t x y => .and (.eq y x) (.and (.eq o.guard none) (.and (.eq (opA st.fr x) (xi n)) (.and (.eq (zDV P ety sz) (some ((List.range sz).map (f z0)))) (.eq (makeChk P t ety B && (decide (newId ≤ id) && (frFresh id st.fr && (hpFresh id st.hp && dstOk N o.dst)))) true))))
      | _ => .bad)
    (fun _ o st => ⟨putF st.fr o.dst (.c (.nm id)), (id, .rows ety sz (List.replicate n.toNat z0).length (gT f (List.replicate n.toNat z0))) :: st.hp⟩)
    (fun ops o i l st Q ho hx k => by
      split at hx
      · rename_i t x y hop
        obtain ⟨h0, h1, h2, h3, h4⟩ := hx
        have h0 : y = x := h0
        subst h0
        exact WO.make f z0 id ho hop h1 h2 h3 h4 hn hb k
      · exact hx.elim)
def Step.bytes (s : ByteArray) (ety id : Nat) (hb : s.size ≤ 140737488355328) : Step P N :=
  .op (fun _ o st => match o.op with
      | .convert src dst x => .and (.eq o.guard none) (.and (.eq (opA st.fr x) (xs s)) (.eq (isBytesTo P src dst ety && (decide (newId ≤ id) && (frFresh id st.fr && (hpFresh id st.hp && dstOk N o.dst)))) true))
      | _ => .bad)
    (fun _ o st => ⟨putF st.fr o.dst (.c (.nm id)), (id, .rows ety 1 (strL s).length (gT fU8 (strL s))) :: st.hp⟩)
    (fun ops o i l st Q ho hx k => by
      split at hx
      · rename_i src dst x hop
        exact WO.bytes id ho hop hx.1 hx.2.1 hx.2.2 hb k
      · exact hx.elim)
def Step.buildO {α : Type} [Inhabited α] (f : α → Nat → DV) (L : List α) (ety sz id : Nat) : Step P N :=
  .op (fun _ o st => match o.op with
      | .buildSlice t len parts => .and (.eq o.guard none) (.and (.eq (xBuildS P st.hp (opA st.fr) t len parts) (some (.c (.d (.ro sz len (gT f L)))))) (.and (.eq len L.length) (.and (.eq (P.underlying t) (some (.slice ety))) (.eq (decide (newId ≤ id) && (frFresh id st.fr && (hpFresh id st.hp && (dstOk N o.dst && decide (len ≤ maxLen))))) true))))
      | _ => .bad)
    (fun _ o st => ⟨putF st.fr o.dst (.c (.nm id)), (id, .rows ety sz L.length (gT f L)) :: st.hp⟩)
    (fun ops o i l st Q ho hx k => by
      split at hx
      · rename_i t len parts hop
        obtain ⟨h0, h1, h2, h3, h4⟩ := hx
        have h2 : len = L.length := h2
        subst h2
        exact WO.buildO id ho hop h0 h1 h3 h4 k
      · exact hx.elim)
def Step.build0 {α : Type} [Inhabited α] (f : α → Nat → DV) (ety sz id : Nat) : Step P N :=
  .op (fun _ o st => match o.op with
      | .buildSlice t len parts => .and (.eq o.guard none) (.and (.eq o.op (.buildSlice t 0 #[])) (.and (.eq (P.underlying t) (some (.slice ety))) (.and (.eq ((P.info? ety).map (·.size)) (some sz)) (.eq (decide (newId ≤ id) && (frFresh id st.fr && (hpFresh id st.hp && dstOk N o.dst))) true))))
      | _ => .bad)
    (fun _ o st => ⟨putF st.fr o.dst (.c (.nm id)), (id, .rows ety sz ([] : List α).length (gT f [])) :: st.hp⟩)
    (fun ops o i l st Q ho hx k => by
      split at hx
      · rename_i t len parts hop
        obtain ⟨h0, h1, h2, h3, h4⟩ := hx
        exact WO.build0 id ho h1 h0 h2 h3 h4 k
      · exact hx.elim)
/-- A read slice compared with nil. -/
noncomputable def Cert.eqNil (n : Nat) (z : Bool → Cert P N ρ) : Cert P N ρ where
  f c K st := match c with
    | .ops ops (i :: l) => match ops[i]? with
      | some o => match o.op with
        | .binOp .eql t x y ty => match opA st.fr x with
          | .c (.d (.ro _ n' _)) => (.and (.and (.eq n' n) (.and (.eq y (.const (.slice none 0 0))) (.and (.eq o.guard none) (.and (.eq (dstOk N o.dst) true)
                (.and (.all fun (p : Addr × Nat) => .eq (pureV P (do eqGuard .eql t x (.const (.slice none 0 0)) (.slice (some p.1) n' p.2) (.slice none 0 0); binOp .eql t (.slice (some p.1) n' p.2) (.slice none 0 0))) (some (.bool false)))
                  (.all fun (p : Nat) => .eq (pureV P (do eqGuard .eql t x (.const (.slice none 0 0)) (.slice none n' p) (.slice none 0 0); binOp .eql t (.slice none n' p) (.slice none 0 0))) (some (.bool true))))))))
              (.all fun b => ((z b).f (.ops ops l) K ⟨putF st.fr o.dst (xb b), st.hp⟩).1), Abs.eqn n fun b => ((z b).f (.ops ops l) K ⟨putF st.fr o.dst (xb b), st.hp⟩).2)
          | _ => badX
        | _ => badX
      | none => badX
    | _ => badX
  ok c K st hx r hr := by
    split at hx
    · rename_i ops i l
      split at hx
      · rename_i o ho
        split at hx
        · rename_i t x y ty hop
          split at hx
          · rename_i sz n' g hxo
            simp only [ho, hop, hxo] at hr
            obtain ⟨⟨h1, h2, h3, h4, h5, h6⟩, h7⟩ := hx
            have h1 : n' = n := h1
            have h2 : y = .const (.slice none 0 0) := h2
            subst h1 h2
            exact WO.eqNil ho hop h3 hxo (fun ad c => by
              cases ad with
              | none => exact h6 c
              | some a => exact h5 (a, c)) h4 fun b hb => (z b).ok _ _ _ (h7 b) r (eqn_inv hr b hb)
          · exact hx.elim
        · exact hx.elim
      · exact hx.elim
    · exact hx.elim
end
end Go.Abs
