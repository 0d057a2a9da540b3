/- DERIVED. Own theory, part 13: leaves of code; weaker facts; nil as a row. -/
import Derived.Test.YtlhiaclmbegaiaaGreatA12
set_option linter.unusedVariables false
set_option linter.unusedSimpArgs false
namespace Go.Abs

theorem thenQ.fall {P N c Q st} (h : WPA P N c st Q) : thenQ P N c Q .normal st := h
theorem thenQ.exit {P N c Q i st} (h : Q (.exit i) st) : thenQ P N c Q (.exit i) st := h
theorem thenQ.ret {P N c Q st} (h : Q .ret st) : thenQ P N c Q .ret st := h
theorem blockQ.fall {id Q st} (h : Q .normal st) : blockQ id Q .normal st := h
theorem blockQ.ret {id Q st} (h : Q .ret st) : blockQ id Q .ret st := h
theorem blockQ.own {id Q st} (h : Q .normal st) : blockQ id Q (.exit id) st := by
  show (if id = id then _ else _)
  rw [if_pos rfl]; exact h
theorem blockQ.exit {id i Q st} (hi : (i == id) = false) (h : Q (.exit i) st) : blockQ id Q (.exit i) st := by
  show (if i = id then _ else _)
  rw [if_neg (by simpa using hi)]; exact h

/-! ### Joins: what lies behind is told of the one result r -/
def jQ {σ ρ : Type} (mk : σ → ASt) (R : Exit → ASt → Prop) (r : ρ) : σ ⊕ ρ → Exit → ASt → Prop
  | .inl s, e, st => e = .normal ∧ st = mk s
  | .inr v, e, st => e ≠ .normal ∧ (v = r → R e st)
def bQ {σ ρ : Type} (id : Nat) (mk : σ → ASt) (R : Exit → ASt → Prop) (r : ρ) : σ ⊕ ρ → Exit → ASt → Prop
  | .inl s, e, st => (e = .normal ∨ e = .exit id) ∧ st = mk s
  | .inr v, e, st => (e ≠ .normal ∧ e ≠ .exit id) ∧ (v = r → R e st)
section
variable {σ ρ : Type} {mk : σ → ASt} {R : Exit → ASt → Prop} {r v : ρ} {s : σ} {st : ASt} {i id : Nat}
theorem jQ.fall (h : st = mk s) : jQ mk R r (.inl s) .normal st := ⟨rfl, h⟩
theorem jQ.ret (h : v = r → R .ret st) : jQ mk R r (.inr v) .ret st := ⟨by simp, h⟩
theorem jQ.exit (h : v = r → R (.exit i) st) : jQ mk R r (.inr v) (.exit i) st := ⟨by simp, h⟩
theorem bQ.fall (h : st = mk s) : bQ id mk R r (.inl s) .normal st := ⟨.inl rfl, h⟩
theorem bQ.own (h : st = mk s) : bQ id mk R r (.inl s) (.exit id) st := ⟨.inr rfl, h⟩
theorem bQ.ret (h : v = r → R .ret st) : bQ id mk R r (.inr v) .ret st := ⟨⟨by simp, by simp⟩, h⟩
theorem bQ.exit (hi : (i == id) = false) (h : v = r → R (.exit i) st) : bQ id mk R r (.inr v) (.exit i) st := ⟨⟨by simp, by simpa using hi⟩, h⟩
end
theorem WPA.blk {P N id c st} {σ ρ : Type} {mk : σ → ASt} {R : Exit → ASt → Prop} {r : ρ} {x : σ ⊕ ρ} (h : WPA P N c st (bQ id mk R r x)) : WPA P N (.block id c) st (jQ mk R r x) := by
  cases x with
  | inl s => exact (WPA.blockJ (mk := mk) (Q := fun (_ : ρ) => R) (x := .inl s) (h.mono fun _ _ h => h)).mono fun _ _ h => h
  | inr v => exact (WPA.blockJ (mk := mk) (Q := fun v e st => v = r → R e st) (x := .inr v) (h.mono fun _ _ h => h)).mono fun _ _ h => h
theorem WPA.lp {P N c} {σ ρ : Type} {f : σ → Option (σ ⊕ ρ)} {R : Exit → ASt → Prop} {r : ρ} (mk : σ → ASt) {s : σ} (hl : Abs.loop f s = some r)
    (hb : ∀ s x, f s = some x → WPA P N c (mk s) (jQ mk R r x)) : WPA P N (.loop c) (mk s) R :=
  WPA.loop mk hl (fun s _ h => (hb s _ h).mono fun _ _ h => h) (fun s h => (hb s _ h).mono fun _ _ h => ⟨h.1, h.2 rfl⟩)
theorem WPA.sq {P N a b st} {σ ρ : Type} {m : Option (σ ⊕ ρ)} {k : σ → Option ρ} {R : Exit → ASt → Prop} {r : ρ} (mk : σ → ASt) (h : bindE m k = some r)
    (ha : ∀ x, m = some x → WPA P N a st (jQ mk R r x)) (hb : ∀ s, k s = some r → WPA P N b (mk s) R) : WPA P N (.seq a b) st R :=
  WPA.seqJ (Q := fun v e st => v = r → R e st) mk h (fun x hx => (ha x hx).mono fun e st hq => by
    cases x with
    | inl s => exact hq
    | inr v => exact hq) (fun s hs => (hb s hs).mono fun _ _ h _ => h) |>.mono fun _ _ h => h rfl

/-! ### Weaker facts -/
def CImp (c c' : C) : Prop := ∀ τ S w y, RelC τ S w c y → RelC τ S w c' y
def AImp (a a' : AV) : Prop := ∀ τ S w y, RelA τ S w a y → RelA τ S w a' y
def CsImp : List C → List C → Prop
  | [], [] => True
  | c :: l, c' :: l' => CImp c c' ∧ CsImp l l'
  | _, _ => False
def AsImp : List AV → List AV → Prop
  | [], [] => True
  | c :: l, c' :: l' => AImp c c' ∧ AsImp l l'
  | _, _ => False
theorem CsImp.nil : CsImp [] [] := trivial
theorem CsImp.cons {c c' : C} {l l' : List C} (h : CImp c c') (t : CsImp l l') : CsImp (c :: l) (c' :: l') := ⟨h, t⟩
theorem AsImp.nil : AsImp [] [] := trivial
theorem AsImp.cons {c c' : AV} {l l' : List AV} (h : AImp c c') (t : AsImp l l') : AsImp (c :: l) (c' :: l') := ⟨h, t⟩
theorem CImp.same {c : C} : CImp c c := fun _ _ _ _ h => h
theorem AImp.same {c : AV} : AImp c c := fun _ _ _ _ h => h
theorem AImp.c {c c' : C} (h : CImp c c') : AImp (.c c) (.c c') := fun τ S w y hr => h τ S w y hr
theorem CsImp.rel {τ S w} : ∀ {l l' : List C} {us : List Value}, CsImp l l' → RelCs τ S w l us → RelCs τ S w l' us
  | [], [], [], _, _ => trivial
  | [], [], _ :: _, _, h => h.elim
  | [], _ :: _, _, h, _ => h.elim
  | _ :: _, [], _, h, _ => h.elim
  | _ :: _, _ :: _, [], _, h => h.elim
  | _ :: _, _ :: _, _ :: _, ⟨h1, h2⟩, ⟨⟨h3, h4⟩, h5⟩ => ⟨⟨h3, h1 _ _ _ _ h4⟩, h2.rel h5⟩
theorem AImp.agg {l l' : List C} (h : CsImp l l') : AImp (.agg l) (.agg l') := by
  rintro τ S w y ⟨us, he, hr⟩
  exact ⟨us, he, h.rel hr⟩
theorem CImp.nil {sz : Nat} {g : Nat → Nat → DV} : CImp (.d (.v (.slice none 0 0))) (.d (.ro sz 0 g)) := by
  intro τ S w y h
  exact ⟨none, 0, h, Nat.le_refl _, fun h => absurd h (by omega)⟩
theorem CImp.ro {sz n n' : Nat} {g g' : Nat → Nat → DV} (hn : n = n') (h : ∀ i, i < n → ∀ j, j < sz → g i j = g' i j) : CImp (.d (.ro sz n g)) (.d (.ro sz n' g')) := by
  subst hn
  rintro τ S w y ⟨a, c, rfl, hc, hr⟩
  refine ⟨a, c, rfl, hc, fun hp => ?_⟩
  obtain ⟨b, o, rfl, hb, hcell⟩ := hr hp
  refine ⟨b, o, rfl, hb, fun i hi j hj => ?_⟩
  obtain ⟨u, h1, h2, h3⟩ := hcell i hi j hj
  exact ⟨u, h1, h2, h i hi j hj ▸ h3⟩
def sub {α : Type} (L : List α) (l h : Int) : List α := (L.take h.toNat).drop l.toNat
theorem sub_length {α : Type} {L : List α} {l h : Int} (hb : 0 ≤ l ∧ l ≤ h ∧ h ≤ (L.length : Int)) : (sub L l h).length = h.toNat - l.toNat := by
  simp [sub]; omega
theorem CImp.sub {α : Type} [Inhabited α] {f : α → Nat → DV} {L : List α} {sz : Nat} {l h : Int} (hb : 0 ≤ l ∧ l ≤ h ∧ h ≤ (L.length : Int)) :
    CImp (.d (.ro sz (h.toNat - l.toNat) fun i => gT f L (l.toNat + i))) (.d (.ro sz (sub L l h).length (gT f (sub L l h)))) := by
  refine CImp.ro (sub_length hb).symm fun i hi j _ => ?_
  have : (Abs.sub L l h)[i]? = L[l.toNat + i]? := by
    unfold Abs.sub
    rw [List.getElem?_drop, List.getElem?_take, if_pos (by omega)]
  simp [gT, List.getD_eq_getElem?_getD, this]

theorem Cfg.imp' {E τ S st a w} (h : Cfg E τ S st a w) {t : Nat} {v : AV} (ht : t < E.N) (hr : RelA τ S w v (a.tmps.getD t undef)) : Cfg E τ S ⟨putF st.fr (some t) v, st.hp⟩ a w := by
  have hts : t < a.tmps.size := by rw [h.sz]; exact ht
  have := h.put (d := some t) (fun _ e => by cases e; exact ht) hr
  have e : a.put (some t) (a.tmps.getD t undef) = a := by
    cases a
    simp only [Act.put]
    congr 1
    apply Array.ext
    · simp
    · intro i h1 h2
      rw [Array.getElem_setIfInBounds (by simpa using h2)]
      split
      · rename_i e; subst e; simp
      · rfl
  rwa [e] at this
theorem Cfg.impA {E τ S st a w} (h : Cfg E τ S st a w) {t : Nat} {v : AV} (ht : t < E.N) (hi : AImp (Abs.lk st.fr t) v) : Cfg E τ S ⟨putF st.fr (some t) v, st.hp⟩ a w :=
  h.imp' ht (hi _ _ _ _ (h.lk t))
theorem WO.imp {P N ops l st Q} (t : Nat) (v : AV) (ht : Nat.blt t N = true) (hi : AImp (lk st.fr t) v) (k : WO P N ops l ⟨putF st.fr (some t) v, st.hp⟩ Q) : WO P N ops l st Q :=
  fun E τ S a w hE h => k E τ S a w hE (h.impA (by rw [hE]; simpa [Nat.blt_eq] using ht) hi)
theorem WPA.imp {P N c st Q} (t : Nat) (v : AV) (ht : Nat.blt t N = true) (hi : AImp (lk st.fr t) v) (k : WPA P N c ⟨putF st.fr (some t) v, st.hp⟩ Q) : WPA P N c st Q :=
  fun E τ S a w hE h => k E τ S a w hE (h.impA (by rw [hE]; simpa [Nat.blt_eq] using ht) hi)

/-- A box's cells, weaker. -/
theorem Cfg.impB {E τ S st a w} (h : Cfg E τ S st a w) {id ety : Nat} {cs cs' : List C} (hl : lkH st.hp id = some (.box ety cs)) (hi : CsImp cs cs') : Cfg E τ S ⟨st.fr, setHp st.hp id (.box ety cs')⟩ a w := by
  obtain ⟨b, us, hτ, hh, hr⟩ := h.hp.box hl
  have hg : w.grownBy w (some b) := ⟨rfl, rfl, rfl, Nat.le_refl _, fun _ _ _ => rfl⟩
  exact h.write hl (w' := w) (b := b) (by rw [hτ]; rfl) hg (ct' := .box ety cs') ⟨b, us, hτ, hh, hi.rel hr⟩
def boxOf (hp : List (Nat × Ct)) (id : Nat) : Option (Nat × List C) :=
  match lkH hp id with
  | some (.box e cs) => some (e, cs)
  | _ => none
theorem boxOf_eq {hp id e cs} (h : boxOf hp id = some (e, cs)) : lkH hp id = some (.box e cs) := by
  unfold boxOf at h
  split at h
  · rename_i h1; simp only [Option.some.injEq, Prod.mk.injEq] at h; rw [h1, h.1, h.2]
  · cases h
theorem WO.impB {P N ops l st Q} (id : Nat) {ety : Nat} {cs : List C} (cs' : List C) (hl : boxOf st.hp id = some (ety, cs)) (hi : CsImp cs cs') (k : WO P N ops l ⟨st.fr, setHp st.hp id (.box ety cs')⟩ Q) : WO P N ops l st Q :=
  fun E τ S a w hE h => k E τ S a w hE (h.impB (boxOf_eq hl) hi)
theorem WPA.impB {P N c st Q} (id : Nat) {ety : Nat} {cs : List C} (cs' : List C) (hl : boxOf st.hp id = some (ety, cs)) (hi : CsImp cs cs') (k : WPA P N c ⟨st.fr, setHp st.hp id (.box ety cs')⟩ Q) : WPA P N c st Q :=
  fun E τ S a w hE h => k E τ S a w hE (h.impB (boxOf_eq hl) hi)

/-- A nil slice is a row of its own, with no elements. -/
theorem Cfg.ownNil {E τ S st a w} (h : Cfg E τ S st a w) {t id ety sz : Nat} {g : Nat → Nat → DV} (ht : t < E.N) (hv : Abs.lk st.fr t = xv (.slice none 0 0)) (hid : newId ≤ id) (hf : frFresh id st.fr = true) (hf' : hpFresh id st.hp = true) :
    Cfg E (upd τ id (.slice none 0 0)) S ⟨putF st.fr (some t) (.c (.nm id)), (id, .rows ety sz 0 g) :: st.hp⟩ a w := by
  have h2 : Cfg E (upd τ id (.slice none 0 0)) S ⟨st.fr, (id, .rows ety sz 0 g) :: st.hp⟩ a w := by
    refine h.fresh hid hf hf' (w' := w) ⟨rfl, rfl, rfl, Nat.le_refl _, fun _ _ _ => rfl⟩ (fun b hb => by simp [Value.ownBlock] at hb) ?_
    refine ⟨[], ⟨by simp, .inl ⟨by simp, rfl⟩⟩, fun i hi => absurd hi (by omega)⟩
  refine h2.imp' ht ?_
  have hr := h.lk t
  rw [hv] at hr
  show a.tmps.getD t undef = upd τ id (.slice none 0 0) id
  rw [upd_same]
  exact hr
def ownChk (N : Nat) (st : ASt) (t id : Nat) : Bool := Nat.blt t N && (decide (newId ≤ id) && (frFresh id st.fr && hpFresh id st.hp))
theorem WO.own {P N ops l st Q} (t id ety sz : Nat) (g : Nat → Nat → DV) (hv : lk st.fr t = xv (.slice none 0 0)) (hc : ownChk N st t id = true) (k : WO P N ops l ⟨putF st.fr (some t) (.c (.nm id)), (id, .rows ety sz 0 g) :: st.hp⟩ Q) : WO P N ops l st Q := by
  simp only [ownChk, Bool.and_eq_true, decide_eq_true_eq, Nat.blt_eq] at hc
  exact fun E τ S a w hE h => k E _ S a w hE (h.ownNil (by rw [hE]; exact hc.1) hv hc.2.1 hc.2.2.1 hc.2.2.2)
theorem WPA.own {P N c st Q} (t id ety sz : Nat) (g : Nat → Nat → DV) (hv : lk st.fr t = xv (.slice none 0 0)) (hc : ownChk N st t id = true) (k : WPA P N c ⟨putF st.fr (some t) (.c (.nm id)), (id, .rows ety sz 0 g) :: st.hp⟩ Q) : WPA P N c st Q := by
  simp only [ownChk, Bool.and_eq_true, decide_eq_true_eq, Nat.blt_eq] at hc
  exact fun E τ S a w hE h => k E _ S a w hE (h.ownNil (by rw [hE]; exact hc.1) hv hc.2.1 hc.2.2.1 hc.2.2.2)

/-- A long term gets a name. -/
def bd {α β : Type} (x : α) (k : α → Option β) : Option β := k x
theorem WO.bd {P N ops l Q} {α β : Type} {x : α} {k : α → Option β} {r : β} (f : α → ASt) (h : Abs.bd x k = some r) (g : ∀ y, k y = some r → WO P N ops l (f y) Q) : WO P N ops l (f x) Q := g x h
theorem ob1 {p : Prop} (h : p) : ob (some p) := h
theorem lkAll.nil {st ρ} : lkAll st ρ [] := trivial
theorem lkAll.cons {st ρ i c r} (h : lkH st (ρ i) = some (renCt ρ c)) (t : lkAll st ρ r) : lkAll st ρ ((i, c) :: r) := ⟨h, t⟩
theorem bd_go {α β : Type} {x : α} {k : α → Option β} {r : β} (h : bd x k = some r) (G : α → Prop) (g : ∀ y, k y = some r → G y) : G x := g x h

/-! ### Contracts -/
theorem AsImp.rel {τ S w} : ∀ {l l' : List AV} {us : List Value}, AsImp l l' → RelAs τ S w l us → RelAs τ S w l' us
  | [], [], [], _, _ => trivial
  | [], [], _ :: _, _, h => h.elim
  | [], _ :: _, _, h, _ => h.elim
  | _ :: _, [], _, h, _ => h.elim
  | _ :: _, _ :: _, [], _, h => h.elim
  | _ :: _, _ :: _, _ :: _, ⟨h1, h2⟩, ⟨h4, h5⟩ => ⟨h1 _ _ _ _ h4, h2.rel h5⟩
theorem Spec.args {P : Program} {f : FuncId} {args args' : List AV} {hp hp' : List (Nat × Ct)} {res : AV} (h : Spec P f args hp res hp') (hi : AsImp args' args) : Spec P f args' hp res hp' :=
  fun w vals τ S hr hH => h w vals τ S (hi.rel hr) hH
theorem tn {i : Int} {n : Nat} (h : 0 ≤ i ∧ i < (n : Int)) : i.toNat < n := by omega
end Go.Abs
