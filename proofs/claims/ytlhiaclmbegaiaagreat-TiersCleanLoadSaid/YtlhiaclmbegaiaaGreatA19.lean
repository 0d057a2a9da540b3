/- DERIVED. Own theory, part 19: certificates of regions that draw their order; from a certificate to a contract. -/
import Derived.Test.YtlhiaclmbegaiaaGreatA18
set_option linter.unusedVariables false
set_option linter.unusedSimpArgs false
namespace Go.Abs
section
variable {P : Program} {N : Nat} {ρ : Type}

/-- An effect in a region that draws its order. -/
structure EffC (P : Program) (N : Nat) where
  j : Nat
  v : AV
  h : List (Nat × Ct) → List (Nat × Ct)
  x : Array Oper → (Nat → AV) → List (Nat × AV) → List (Nat × Ct) → Oper → X
  ok : ∀ ops V fr hp o, ops[j]? = some o → V j = v → (x ops V fr hp o).ok → EffD P N ops V fr j hp (h hp)
/-- The heap behind a set of effects, laid in the text's order. -/
def hM (es : List (EffC P N)) (hp : List (Nat × Ct)) (l : List Nat) : List (Nat × Ct) := es.foldl (fun hp e => if l.contains e.j then e.h hp else hp) hp
/-- All effects, wherever they can be performed. -/
def allX {α : Type} (l : List α) (k : α → X) : X := match l with
  | [] => .nil
  | x :: r => .and (k x) (allX r k)
theorem allX_ok {α : Type} {k : α → X} : ∀ {l : List α}, (allX l k).ok → ∀ x ∈ l, (k x).ok
  | [], _, x, hx => by cases hx
  | y :: r, h, x, hx => by
    rcases List.mem_cons.1 hx with rfl | hx
    · exact h.1
    · exact allX_ok h.2 x hx
def allX' {α : Type 1} (l : List α) (k : α → X) : X := match l with
  | [] => .nil
  | x :: r => .and (k x) (allX' r k)
theorem allX'_ok {α : Type 1} {k : α → X} : ∀ {l : List α}, (allX' l k).ok → ∀ x ∈ l, (k x).ok
  | [], _, x, hx => by cases hx
  | y :: r, h, x, hx => by
    rcases List.mem_cons.1 hx with rfl | hx
    · exact h.1
    · exact allX'_ok h.2 x hx
def whenX (b : Bool) (x : X) : X := match b with | true => x | false => .nil
theorem whenX_ok {b : Bool} {x : X} (h : (whenX b x).ok) (hb : b = true) : x.ok := by subst hb; exact h
def matX (o : Option Oper) (k : Oper → X) : X := match o with | some o => k o | none => .bad
/-- The values, the latest first. -/
def vR (P : Program) (N : Nat) (ops : Array Oper) (fr : List (Nat × AV)) (H : List Nat → List (Nat × Ct)) (effs : List Nat) (ev : List (Nat × AV)) : Nat → List AV
  | 0 => []
  | n + 1 => (match ev.lookup n with
      | some v => v
      | none => match valD P N ops (fun i => (vR P N ops fr H effs ev n).getD (n - 1 - i) .dead) fr (H (effs.filter fun x => Nat.blt x n)) n with
        | some (_, a) => a
        | none => .dead) :: vR P N ops fr H effs ev n
def drV (P : Program) (N : Nat) (ops : Array Oper) (st : ASt) (es : List (EffC P N)) (j : Nat) : AV :=
  (vR P N ops st.fr (hM es st.hp) (es.map fun e => e.j) (es.map fun e => (e.j, e.v)) ops.size).getD (ops.size - 1 - j) .dead
def obL (obs : List (Nat × Ob)) (n : Nat) : List Ob := (List.range n).map fun j => (obs.lookup j).getD none
theorem obL_all {obs : List (Nat × Ob)} {n : Nat} (h : obsAll (obs.map (·.2))) : obsAll (obL obs n) := by
  have h1 : ∀ {l : List (Nat × Ob)} j, obsAll (l.map (·.2)) → ob ((l.lookup j).getD none) := by
    intro l j
    induction l with
    | nil => intro _; trivial
    | cons q l ih =>
      obtain ⟨a, b⟩ := q
      intro hq
      simp only [List.lookup_cons]
      split
      · exact hq.1
      · exact ih hq.2
  have h2 : ∀ {l : List Ob}, (∀ q ∈ l, ob q) → obsAll l := by
    intro l
    induction l with
    | nil => intro _; trivial
    | cons q l ih => exact fun hq => ⟨hq q (by simp), ih fun p hp => hq p (List.mem_cons_of_mem _ hp)⟩
  refine h2 fun q hq => ?_
  obtain ⟨j, _, rfl⟩ := List.mem_map.1 hq
  exact h1 j h
theorem EffD.perm {ops : Array Oper} {V : Nat → AV} {fr : List (Nat × AV)} {j : Nat} {hp hp1 hp2 : List (Nat × Ct)} (h : EffD P N ops V fr j hp hp1) (ids : List Nat) (h1 : pickHp hp1 ids = some hp2) (h2 : nodupB ids = true) : EffD P N ops V fr j hp hp2 := by
  intro fr' a1 a2 a3 Q hQ E τ S a w hE hC
  have := h fr' a1 a2 a3 (fun e s => e = .normal ∧ s = ⟨putF fr' (dstOf ops j) (V j), hp1⟩) ⟨rfl, rfl⟩ E τ S a w hE hC
  have k := wpOps_one (Q := Post E Q) (K := fun a w => Post E Q .normal a w) this fun τ' S' a' w' hc => ⟨τ', S', _, hQ, hc.df, hc.sz, hc.fr, hc.hp.pick h2 h1, fun p hp => hc.own p ((pickHp_mem h1).1 p hp), hc.so, hc.keep, hc.base⟩
  unfold wpOp at k
  unfold wpOps
  exact k
def drX (P : Program) (N : Nat) (ops : Array Oper) (st : ASt) (es : List (EffC P N)) (obs : List (Nat × Ob)) : X :=
  .and (.eq (P.follows .mixedOrders) true) (.and (.eq (dchk ops && (es.map fun e => e.j).all (fun i => decide (i < ops.size))) true) (.and (.eq (nodupB (es.map fun e => e.j)) true)
    (.and (allX (List.range ops.size) fun j => whenX (!(es.map fun e => e.j).contains j) (allX (ideals ops (es.map fun e => e.j)) fun l => whenX (okAt ops (es.map fun e => e.j) l j) (.eq (valD P N ops (drV P N ops st es) st.fr (hM es st.hp l) j) (some ((obL obs ops.size).getD j none, drV P N ops st es j)))))
      (allX' es fun e => .and (.eq (drV P N ops st es e.j) e.v) (allX (ideals ops (es.map fun e => e.j)) fun l => whenX (okAt ops (es.map fun e => e.j) l e.j && !l.contains e.j)
        (.and (matX ops[e.j]? fun o => e.x ops (drV P N ops st es) st.fr (hM es st.hp l) o)
          (.and (.eq (pickHp (e.h (hM es st.hp l)) ((hM es st.hp ((es.map fun e => e.j).filter fun x => l.contains x || x == e.j)).map (·.1))) (some (hM es st.hp ((es.map fun e => e.j).filter fun x => l.contains x || x == e.j))))
            (.eq (nodupB ((hM es st.hp ((es.map fun e => e.j).filter fun x => l.contains x || x == e.j)).map (·.1))) true))))))))
def drS (P : Program) (N : Nat) (ops : Array Oper) (st : ASt) (es : List (EffC P N)) (live ids : List Nat) : Option ASt :=
  can N ⟨foldD ops (drV P N ops st es) (fun _ => true) st.fr ops.size, hM es st.hp (es.map fun e => e.j)⟩ live ids
theorem hM_nil {es : List (EffC P N)} {hp : List (Nat × Ct)} : hM es hp [] = hp := by
  unfold hM
  induction es with
  | nil => rfl
  | cons e es ih => simpa using ih
def Step.dr (es : List (EffC P N)) (obs : List (Nat × Ob)) (ho : obsAll (obs.map (·.2))) (live ids : List Nat) : Step P N where
  f c st := match c with
    | .code (.region _ ops true) => match drS P N ops st es live ids with
      | some s => (drX P N ops st es obs, some (.ops ops [], s))
      | none => (.bad, none)
    | _ => (.bad, none)
  ok c st c' st' h hx := by
    split at h
    · rename_i id ops
      simp only at hx
      split at h
      · rename_i s hs
        simp only [hs] at hx
        cases h
        obtain ⟨h1, h2, h3, h4, h5⟩ := hx
        refine .inr (.inl ⟨id, ops, rfl, rfl, fun Q k => ?_⟩)
        refine WPA.drawn h1 (drV P N ops st es) (obL obs ops.size) (hM es st.hp) (es.map fun e : EffC P N => e.j) live ids h2 hM_nil (fun j hj hje l hl hok => ?_) (obL_all ho) (fun j hje l hl hok hjl => ?_) hs k
        · have := whenX_ok (allX_ok h4 j (by simpa using hj)) (by simpa using hje)
          exact whenX_ok (allX_ok this l hl) hok
        · obtain ⟨e, he, rfl⟩ := List.mem_map.1 hje
          obtain ⟨g1, g2⟩ := allX'_ok h5 e he
          have := whenX_ok (allX_ok g2 l hl) (by simp [hok, hjl])
          obtain ⟨g3, g4, g5⟩ := this
          unfold matX at g3
          split at g3
          · rename_i o hoo
            exact EffD.perm (e.ok ops _ st.fr _ o hoo g1 g3) _ g4 g5
          · exact g3.elim
      · cases h
    · cases h

/-! ### Effects -/
def EffC.call {args : List AV} {hp0 hp' : List (Nat × Ct)} {res : AV} {f : FuncId} (j : Nat) (old new : List (Nat × Nat)) (spec : Spec P f args hp0 res hp') : EffC P N where
  j := j
  v := renA (asc (new ++ (hp0.map fun p => (p.1, asc old p.1)))) res
  h hp := renHp (asc (new ++ (hp0.map fun p => (p.1, asc old p.1)))) hp' ++ delAll hp (hp0.map fun p => asc old p.1)
  x ops V fr hp o := .and (isCall o) (.and (.eq (callOf o).callee (.value (.func f))) (.and (.eq o.guard none) (.and (.eq (callable P f) true) (.and (.eq ((callOf o).args.toList.map (envD ops V fr j)) (args.map (renA (asc old)))) (.and (lkEq hp (asc old) hp0)
      (.and (.eq (nodupB (hp0.map fun p => asc old p.1) && (freshAll ⟨fr, hp⟩ new && ((hp0.all fun p => decide (p.1 < newId)) && (avIn (new ++ (hp0.map fun p => (p.1, asc old p.1))) res && (hpIn (new ++ (hp0.map fun p => (p.1, asc old p.1))) hp' && dstOk N o.dst))))) true) (.eq (new.all fun p => newD ops V j p.2) true)))))))
  ok ops V fr hp o ho hv hx := EffD.call old new ho (isCall_eq hx.1) hx.2.1 hx.2.2.1 hx.2.2.2.1 spec hx.2.2.2.2.1 (lkEq_all hx.2.2.2.2.2.1) hx.2.2.2.2.2.2.1 hx.2.2.2.2.2.2.2 hv rfl
def EffC.callG {α : Type} {args : List AV} {hp0 : List (Nat × Ct)} {hp' : α → List (Nat × Ct)} {res : α → AV} {f : FuncId} (j : Nat) (g : Bool) (m : Option α) (d r : α) (hr : _root_.cond g m (some d) = some r) (old : List (Nat × Nat)) (p : Ob) (hp : ob p) (spec : ∀ r, m = some r → Spec P f args hp0 (res r) (hp' r)) : EffC P N where
  j := j
  v := gdA (some g) (renA (asc (hp0.map fun p => (p.1, asc old p.1))) (res r))
  h hp := renHp (asc (hp0.map fun p => (p.1, asc old p.1))) (hp' r) ++ delAll hp (hp0.map fun p => asc old p.1)
  x ops V fr hp o := .and (isCall o) (.and (.eq (callOf o).callee (.value (.func f))) (.and (.eq (guardD ops V fr j o) (some (some g))) (.and (.eq (callable P f) true) (.and (.eq ((callOf o).args.toList.map fun x => stripA (envD ops V fr j x)) (args.map (renA (asc old)))) (.and (.eq (owesD (some g) (envD ops V fr j) (callOf o).args.toList) p) (.and (lkEq hp (asc old) hp0)
      (.and (.eq (renHp (asc (hp0.map fun p => (p.1, asc old p.1))) (hp' d) ++ delAll hp (hp0.map fun p => asc old p.1)) hp)
      (.eq (nodupB (hp0.map fun p => asc old p.1) && ((hp0.all fun p => decide (p.1 < newId)) && (avIn ((hp0.map fun p => (p.1, asc old p.1))) (res r) && (hpIn ((hp0.map fun p => (p.1, asc old p.1))) (hp' r) && dstOk N o.dst)))) true))))))))
  ok ops V fr hp2 o ho hv hx := by
    obtain ⟨h1, h2, h3, h4, h5, h6, h7, h8, h9⟩ := hx
    have h8 : renHp (asc (hp0.map fun p => (p.1, asc old p.1))) (hp' d) ++ delAll hp2 (hp0.map fun p => asc old p.1) = hp2 := h8
    refine EffD.callG (hp' := hp' r) (res := res r) g old ho (isCall_eq h1) h2 h3 h4 (fun hg => spec r ?_) h5 p h6 hp (lkEq_all h7) h9 rfl hv (fun _ => rfl) (fun hg => ?_)
    · subst hg; exact hr
    · subst hg
      have hr : some d = some r := hr
      cases hr
      exact h8
def delO (hp : List (Nat × Ct)) : Option Nat → List (Nat × Ct)
  | none => hp
  | some d => del hp d
def appG (P : Program) (N : Nat) (ops : Array Oper) (V : Nat → AV) (fr : List (Nat × AV)) (hp : List (Nat × Ct)) (j : Nat) (o : Oper) (ety sz B id : Nat) : Bool :=
  appChk P (typ0 o 0) (typ0 o 1) ety sz B && (decide (newId ≤ id) && (frFresh id fr && (hpFresh id hp && (dstOk N o.dst && newD ops V j id))))
def EffC.appL {α : Type} [Inhabited α] (f : α → Nat → DV) (L L2 : List α) (g : Nat → Nat → DV) (hgl : L = [] ∨ g = gT f L) (j : Nat) (dl : Option Nat) (ety sz B id : Nat) (hb : (L.length + L2.length) * B ≤ 140737488355328) : EffC P N where
  j := j
  v := .c (.nm id)
  h hp := (id, .rows ety sz (L ++ L2).length (gT f (L ++ L2))) :: delO hp dl
  x ops V fr hp o := .and (appX o) (.and (.eq (ownOf hp ety sz (envD ops V fr j (arg0 o 0))) (some (L.length, g))) (.and (.eq (srcOf P hp (typ0 o 1) sz (envD ops V fr j (arg0 o 1))) (some (L2.length, gT f L2))) (.and (.eq (appG P N ops V fr hp j o ety sz B id) true) (.eq (delO hp dl) (delS hp (envD ops V fr j (arg0 o 0)))))))
  ok ops V fr hp o ho hv hx := by
    refine EffD.appL f id ho (isCall_eq hx.1.1) hx.1.2.1 hx.1.2.2.2.1 hx.1.2.2.2.2 hx.1.2.2.1 hx.2.1 hgl hx.2.2.1 (fun _ _ _ _ => rfl) hx.2.2.2.1 hb hv ?_
    rw [show delO hp dl = _ from hx.2.2.2.2]
def EffC.app1 {α : Type} [Inhabited α] (f : α → Nat → DV) (L : List α) (y : α) (g : Nat → Nat → DV) (hgl : L = [] ∨ g = gT f L) (j : Nat) (dl : Option Nat) (ety sz B id : Nat) (hb : (L.length + 1) * B ≤ 140737488355328) : EffC P N where
  j := j
  v := .c (.nm id)
  h hp := (id, .rows ety sz (L ++ [y]).length (gT f (L ++ [y]))) :: delO hp dl
  x ops V fr hp o := .and (appX o) (.and (.eq (ownOf hp ety sz (envD ops V fr j (arg0 o 0))) (some (L.length, g))) (.and (.eq ((srcOf P hp (typ0 o 1) sz (envD ops V fr j (arg0 o 1))).map fun r => (r.1, (List.range sz).map (r.2 0))) (some (1, (List.range sz).map (f y)))) (.and (.eq (appG P N ops V fr hp j o ety sz B id) true) (.eq (delO hp dl) (delS hp (envD ops V fr j (arg0 o 0)))))))
  ok ops V fr hp o ho hv hx := by
    obtain ⟨gx, h1, h2⟩ := one_of hx.2.2.1
    refine EffD.app1 f y id ho (isCall_eq hx.1.1) hx.1.2.1 hx.1.2.2.2.1 hx.1.2.2.2.2 hx.1.2.2.1 hx.2.1 hgl h1 h2 hx.2.2.2.1 hb hv ?_
    rw [show delO hp dl = _ from hx.2.2.2.2]
def EffC.appSub {α : Type} [Inhabited α] (f : α → Nat → DV) (L L2 : List α) (lo hi : Int) (hb2 : 0 ≤ lo ∧ lo ≤ hi ∧ hi ≤ (L2.length : Int)) (g : Nat → Nat → DV) (hgl : L = [] ∨ g = gT f L) (j : Nat) (dl : Option Nat) (ety sz B id : Nat) (hb : (L.length + (sub L2 lo hi).length) * B ≤ 140737488355328) : EffC P N where
  j := j
  v := .c (.nm id)
  h hp := (id, .rows ety sz (L ++ sub L2 lo hi).length (gT f (L ++ sub L2 lo hi))) :: delO hp dl
  x ops V fr hp o := .and (appX o) (.and (.eq (ownOf hp ety sz (envD ops V fr j (arg0 o 0))) (some (L.length, g))) (.and (.eq (srcOf P hp (typ0 o 1) sz (envD ops V fr j (arg0 o 1))) (some (hi.toNat - lo.toNat, fun k => gT f L2 (lo.toNat + k)))) (.and (.eq (appG P N ops V fr hp j o ety sz B id) true) (.eq (delO hp dl) (delS hp (envD ops V fr j (arg0 o 0)))))))
  ok ops V fr hp o ho hv hx := by
    refine EffD.appSub f id ho (isCall_eq hx.1.1) hx.1.2.1 hx.1.2.2.2.1 hx.1.2.2.2.2 hx.1.2.2.1 hx.2.1 hgl hx.2.2.1 hb2 hx.2.2.2.1 hb hv ?_
    rw [show delO hp dl = _ from hx.2.2.2.2]
def EffC.stB (j id sz k ety : Nat) (cs vs : List C) : EffC P N where
  j := j
  v := .dead
  h hp := setHp hp id (.box ety (setMany cs k vs))
  x ops V fr hp o := .and (.eq o.op (.store (stTy o) (stX o) (stY o))) (.and (.eq o.guard none) (.and (.eq (envD ops V fr j (stX o)) (.c (.np id sz 0 k))) (.and (.eq (lkH hp id) (some (.box ety cs))) (.and (.eq (avCells hp (envD ops V fr j (stY o))) (some vs)) (.eq (decide ((P.info? (stTy o)).map (·.size) = some vs.length) && (decide (k + vs.length ≤ cs.length) && dstOk N o.dst)) true)))))
  ok ops V fr hp o ho hv hx := EffD.storeB ho hx.1 hx.2.1 hx.2.2.1 hx.2.2.2.1 hx.2.2.2.2.1 hx.2.2.2.2.2 hv rfl
def EffC.stR {α : Type} [Inhabited α] (f : α → Nat → DV) (L : List α) (j id ety sz k0 k : Nat) (nv : α) (hk0 : k0 < L.length) : EffC P N where
  j := j
  v := .dead
  h hp := setHp hp id (.rows ety sz (L.set k0 nv).length (gT f (L.set k0 nv)))
  x ops V fr hp o := .and (.eq o.op (.store (stTy o) (stX o) (stY o))) (.and (.eq o.guard none) (.and (.eq (envD ops V fr j (stX o)) (.c (.np id sz k0 k))) (.and (.eq (lkH hp id) (some (.rows ety sz L.length (gT f L))))
      (match (avCells hp (envD ops V fr j (stY o))).bind dataOf with
        | some ds => .and (.eq (decide ((P.info? (stTy o)).map (·.size) = some ds.length) && (decide (k + ds.length ≤ sz) && dstOk N o.dst)) true) (.eq ((List.range sz).map (f nv)) ((List.range sz).map fun j' => if k ≤ j' ∧ j' < k + ds.length then ds.getD (j' - k) (.v undef) else f (L.getD k0 default) j'))
        | none => .bad))))
  ok ops V fr hp o ho hv hx := by
    obtain ⟨h1, h2, h3, h4, h5⟩ := hx
    split at h5
    · rename_i ds hds
      cases hv2 : avCells hp (envD ops V fr j (stY o)) with
      | none => simp [hv2] at hds
      | some vs =>
        simp only [hv2, Option.bind_some] at hds
        exact EffD.storeR nv ho h1 h2 h3 h4 hv2 hds hk0 h5.1 h5.2 hv rfl
    · exact h5.elim

/-- From a certificate to a contract. -/
theorem Cert.spec {f : FuncId} {fn : Func} {c : Code} {args : List AV} {hp0 : List (Nat × Ct)} (ids : List Nat) (res : ρ → AV) (hp' : ρ → List (Nat × Ct)) (z : Cert P N ρ) (hf : P.funcs[f]? = some fn) (hb : fn.body = some c) {F : Option ρ}
    (hx : (⟨decide (fn.ntmps = N) && Nat.ble args.length N, ⟨(z.f (.code c) (.fn fn ids res hp') ⟨slots 0 args, hp0⟩).1.y true, F⟩⟩ : Bool × (Y × Option ρ)) = ⟨true, ⟨(z.f (.code c) (.fn fn ids res hp') ⟨slots 0 args, hp0⟩).1.y false, (z.f (.code c) (.fn fn ids res hp') ⟨slots 0 args, hp0⟩).2⟩⟩)
    {r : ρ} (h : F = some r) : Spec P f args hp0 (res r) (hp' r) := by
  simp only [Prod.mk.injEq, Bool.and_eq_true, decide_eq_true_eq] at hx
  obtain ⟨⟨h1, h2⟩, h3, h4⟩ := hx
  rw [h4] at h
  exact Spec.enter ids hf hb h1 h2 (z.ok _ _ _ (X.ok_of h3) r h)
end
end Go.Abs
