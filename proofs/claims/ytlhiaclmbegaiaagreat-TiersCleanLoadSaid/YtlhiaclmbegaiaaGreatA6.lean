/- DERIVED. Own theory, part 6: the steps of a region in the text's order. -/
import Derived.Test.YtlhiaclmbegaiaaGreatA5
set_option linter.unusedVariables false
set_option linter.unusedSimpArgs false
namespace Go.Abs

def stripA : AV → AV
  | .gd _ x => x
  | x => x
/-- The condition under which the operation is performed. -/
def guardOf (fr : List (Nat × AV)) (ops : Array Oper) (o : Oper) : Option (Option Bool) :=
  match o.guard with
  | none => some none
  | some (j, b) =>
    match (ops[j]?).bind (·.dst) with
    | some t => match lk fr t with
      | .c (.d (.v (.bool q))) => some (some (match b with | true => q | false => !q))
      | .gd g (.c (.d (.v (.bool q)))) => some (some (g && (match b with | true => q | false => !q)))
      | _ => none
    | none => none
def owe1 (G : Option Bool) : AV → Ob
  | .gd g _ => match G with
    | none => some (g = true)
    | some G => some (G = true → g = true)
  | _ => none
def owes (G : Option Bool) (fr : List (Nat × AV)) : List Operand → Ob
  | [] => none
  | x :: l => obAnd (owe1 G (opA fr x)) (owes G fr l)
def obG (G : Option Bool) (p : Ob) : Ob :=
  match G, p with
  | none, p => p
  | some _, none => none
  | some g, some q => some (g = true → q)
def gdA (G : Option Bool) (v : AV) : AV :=
  match G with
  | none => v
  | some g => match v with
    | .c x => .gd g (.c x)
    | .agg l => .gd g (.agg l)
    | _ => .dead
def dstOk (N : Nat) : Option Nat → Bool
  | none => true
  | some d => decide (d < N)

def mergeV (t : Bool) : Value → Value → Option Value
  | .bool p, .bool q => some (.bool (cond t p q))
  | .int k p, .int k' q => if k = k' then some (.int k (cond t p q)) else none
  | .string p, .string q => some (.string (cond t p q))
  | _, _ => none
theorem mergeV_eq {t : Bool} {u v r : Value} (h : mergeV t u v = some r) : r = if t then u else v := by
  unfold mergeV at h
  split at h
  · simp only [Option.some.injEq] at h; subst h; cases t <;> rfl
  · split at h
    · rename_i hk; subst hk; simp only [Option.some.injEq] at h; subst h; cases t <;> rfl
    · cases h
  · simp only [Option.some.injEq] at h; subst h; cases t <;> rfl
  · cases h

def owePick (G : Option Bool) (t want : Bool) : AV → Ob
  | .gd g _ => match G with
    | none => some (t = want → g = true)
    | some G => some (G = true → t = want → g = true)
  | _ => none
def xPick (G : Option Bool) (c a b : AV) : Option (Ob × AV) :=
  match stripA c, stripA a, stripA b with
  | .c (.d (.v (.bool t))), .c (.d (.v u)), .c (.d (.v v)) =>
    (mergeV t u v).map fun r => (obAnd (owe1 G c) (obAnd (owePick G t true a) (owePick G t false b)), xv r)
  | _, _, _ => none

def dataOf : List C → Option (List DV)
  | [] => some []
  | .d x :: l => (dataOf l).map (x :: ·)
  | _ :: _ => none

/-! Typed rows: element i of a list, by the cells of its type. -/
def gT {α : Type} [Inhabited α] (f : α → Nat → DV) (l : List α) : Nat → Nat → DV := fun i j => f (l.getD i default) j
def fInt (k : IntKind) : Int → Nat → DV := fun x _ => .v (.int k x)
def fBool : Bool → Nat → DV := fun x _ => .v (.bool x)
def fStr : ByteArray → Nat → DV := fun x _ => .v (.string x)
def strsOf : List DV → Option (List ByteArray)
  | [] => some []
  | .v (.string s) :: l => (strsOf l).map (s :: ·)
  | _ :: _ => none
def intsOf (k : IntKind) : List DV → Option (List Int)
  | [] => some []
  | .v (.int k' n) :: l => if k' = k then (intsOf k l).map (n :: ·) else none
  | _ :: _ => none
theorem strsOf_eq : ∀ {l : List DV} {L : List ByteArray}, strsOf l = some L → l = L.map fun s => .v (.string s)
  | [], L, h => by simp [strsOf] at h; subst h; rfl
  | x :: l, L, h => by
    unfold strsOf at h
    split at h
    · cases ‹_ :: _ = []›
    · rename_i s r he
      simp only [List.cons.injEq] at he
      obtain ⟨rfl, rfl⟩ := he
      cases hq : strsOf l with
      | none => simp [hq] at h
      | some r =>
        simp only [hq, Option.map_some, Option.some.injEq] at h
        subst h
        simp [strsOf_eq hq]
    · cases h
theorem intsOf_eq {k : IntKind} : ∀ {l : List DV} {L : List Int}, intsOf k l = some L → l = L.map fun n => .v (.int k n)
  | [], L, h => by simp [intsOf] at h; subst h; rfl
  | x :: l, L, h => by
    unfold intsOf at h
    split at h
    · cases ‹_ :: _ = []›
    · rename_i k' n r he
      simp only [List.cons.injEq] at he
      obtain ⟨rfl, rfl⟩ := he
      split at h
      · rename_i hk
        subst hk
        cases hq : intsOf k' l with
        | none => simp [hq] at h
        | some r =>
          simp only [hq, Option.map_some, Option.some.injEq] at h
          subst h
          simp [intsOf_eq hq]
      · cases h
    · cases h
def litGet (sz : Nat) (ds : List DV) : Nat → Nat → DV :=
  if sz = 1 then
    match ds with
    | .v (.string _) :: _ => match strsOf ds with | some L => gT fStr L | none => fun i j => ds.getD (i * sz + j) (.v undef)
    | .v (.int k _) :: _ => match intsOf k ds with | some L => gT (fInt k) L | none => fun i j => ds.getD (i * sz + j) (.v undef)
    | _ => fun i j => ds.getD (i * sz + j) (.v undef)
  else fun i j => ds.getD (i * sz + j) (.v undef)
theorem litGet_eq {sz : Nat} {ds : List DV} {i j : Nat} (hj : j < sz) (hlt : i * sz + j < ds.length) : litGet sz ds i j = ds.getD (i * sz + j) (.v undef) := by
  unfold litGet
  split
  · rename_i h1
    subst h1
    obtain rfl : j = 0 := by omega
    have hi : i < ds.length := by omega
    split
    · rename_i s tl
      cases hL : strsOf (.v (.string s) :: tl) with
      | some L =>
        have e := strsOf_eq hL
        have hl : i < L.length := by have := congrArg List.length e; simp at this hi; omega
        simp only
        rw [e]
        simp [gT, fStr, List.getD_eq_getElem?_getD, List.getElem?_map, List.getElem?_eq_getElem hl]
      | none => rfl
    · rename_i k n tl
      cases hL : intsOf k (.v (.int k n) :: tl) with
      | some L =>
        have e := intsOf_eq hL
        have hl : i < L.length := by have := congrArg List.length e; simp at this hi; omega
        simp only
        rw [e]
        simp [gT, fInt, List.getD_eq_getElem?_getD, List.getElem?_map, List.getElem?_eq_getElem hl]
      | none => rfl
    · rfl
  · rfl

def repC (z : Value) (n : Nat) : List C := (List.range n).map fun k => .d (.v (z.cells.getD (k % z.cells.size) undef))

/-- A slice literal, read-only from the first. -/
def xBuildS (P : Program) (hp : List (Nat × Ct)) (ρ : Operand → AV) (t len : Nat) (parts : Array (Nat × Operand)) : Option AV :=
  match P.underlying t with
  | some (.slice e) => match P.info? e with
    | some ie => match ie.zero with
      | some z => if len * ie.size ≤ 2 ^ 24 ∧ 0 < len * ie.size ∧ z.cells.all (·.oneCell') ∧ 0 < z.cells.size then
          match fillC hp (fun i => some (i * ie.size, ie.size)) (repC z (len * ie.size)) (parts.toList.map fun x => (x.1, ρ x.2)) with
          | some cs => match dataOf cs with
            | some ds => some (.c (.d (.ro ie.size len (litGet ie.size ds))))
            | none => none
          | none => none
        else none
      | none => none
    | none => none
  | _ => none

def astep (P : Program) (N : Nat) (ops : Array Oper) (o : Oper) (st : ASt) (nx : Nat) : Option (Ob × ASt × Nat) :=
  if dstOk N o.dst then
    match guardOf st.fr ops o with
    | none => none
    | some G =>
      match o.op with
      | .pick c a b => (xPick G (opA st.fr c) (opA st.fr a) (opA st.fr b)).map fun r => (r.1, ⟨putF st.fr o.dst (gdA G r.2), st.hp⟩, nx)
      | .store t x y =>
        match G, opA st.fr x, avCells st.hp (opA st.fr y) with
        | none, .c (.np id _ 0 j), some vs =>
          match lkH st.hp id with
          | some (.box ety cs) =>
            if (P.info? t).map (·.size) = some vs.length ∧ j + vs.length ≤ cs.length then some (none, ⟨putF st.fr o.dst .dead, setHp st.hp id (.box ety (setMany cs j vs))⟩, nx) else none
          | _ => none
        | _, _, _ => none
      | .alloc e =>
        match G, P.info? e with
        | none, some i => match i.zero with
          | some z => match zeroC z with
            | some cs => if decide (newId ≤ nx) && (frFresh nx st.fr && hpFresh nx st.hp) then some (none, ⟨putF st.fr o.dst (.c (.np nx cs.length 0 0)), (nx, .box e cs) :: st.hp⟩, nx + 1) else none
            | none => none
          | none => none
        | _, _ => none
      | .box e x =>
        match G, avCells st.hp (opA st.fr x) with
        | none, some cs => if decide (newId ≤ nx) && (frFresh nx st.fr && hpFresh nx st.hp) then some (none, ⟨putF st.fr o.dst (.c (.np nx cs.length 0 0)), (nx, .box e cs) :: st.hp⟩, nx + 1) else none
        | _, _ => none
      | .buildSlice t len parts =>
        match G, xBuildS P st.hp (opA st.fr) t len parts with
        | none, some av => some (none, ⟨putF st.fr o.dst av, st.hp⟩, nx)
        | _, _ => none
      | op =>
        match pval P st.hp (fun x => stripA (opA st.fr x)) op with
        | some (p, av) => some (obAnd (owes G st.fr op.operands.toList) (obG G p), ⟨putF st.fr o.dst (gdA G av), st.hp⟩, nx)
        | none => none
  else none

theorem strip_rel {τ S w} {G : Option Bool} {x : AV} {y : Value} (h : RelA τ S w x y) (ho : ob (owe1 G x)) (hG : ∀ g, G = some g → g = true) : RelA τ S w (stripA x) y := by
  cases x with
  | gd g z =>
    have hg : g = true := by
      cases G with
      | none => exact ho
      | some G => exact ho (hG G rfl)
    exact (h.1 hg).a
  | _ => exact h
theorem owes_mem {G : Option Bool} {fr} : ∀ {l : List Operand}, ob (owes G fr l) → ∀ x ∈ l, ob (owe1 G (opA fr x))
  | [], _, x, hx => by cases hx
  | y :: l, h, x, hx => by
    obtain ⟨h1, h2⟩ := obAnd_iff h
    rcases List.mem_cons.1 hx with e | hx1
    · rw [e]; exact h1
    · exact owes_mem h2 x hx1

theorem ob_G {G : Option Bool} {p : Ob} (h : ob (obG G p)) (hG : ∀ g, G = some g → g = true) : ob p := by
  cases G with
  | none => exact h
  | some g => cases p with
    | none => trivial
    | some q => exact h (hG g rfl)

theorem gdA_rel {τ S w} {G : Option Bool} {v : AV} {y : Value} (hG : ∀ g, G = some g → g = true) (h : RelA τ S w v y) : RelA τ S w (gdA G v) y := by
  cases G with
  | none => exact h
  | some g =>
    have := hG g rfl
    subst this
    cases v with
    | c x => exact ⟨fun _ => h, fun h => (by cases h)⟩
    | agg l => exact ⟨fun _ => h, fun h => (by cases h)⟩
    | _ => trivial
theorem gdA_undef {τ S w} {v : AV} : RelA τ S w (gdA (some false) v) undef := by
  cases v with
  | c x => exact ⟨fun h => (by cases h), fun _ => rfl⟩
  | agg l => exact ⟨fun h => (by cases h), fun _ => rfl⟩
  | _ => trivial

/-- Is the operation wanted? Just where its condition holds. -/
theorem wanted_of {E τ S st a w} (h : Cfg E τ S st a w) {ops : Array Oper} {o : Oper} {G : Option Bool} (hg : guardOf st.fr ops o = some G) :
    (G = none → Region.wanted o (yielded ops a.tmps) = true) ∧ ∀ g, G = some g → Region.wanted o (yielded ops a.tmps) = g := by
  unfold guardOf at hg
  unfold Region.wanted
  cases hgd : o.guard with
  | none =>
    simp only [hgd, Option.some.injEq] at hg
    subst hg
    exact ⟨fun _ => rfl, fun g h => by cases h⟩
  | some jb =>
    obtain ⟨j, b⟩ := jb
    simp only [hgd] at hg
    cases ht : (ops[j]?).bind (·.dst) with
    | none => simp [ht] at hg
    | some t =>
      simp only [ht] at hg
      have hr := h.lk t
      have hy : ∀ q, a.tmps.getD t undef = .bool q → yielded ops a.tmps j = some q := by
        intro q hq
        unfold yielded
        rw [ht]
        simp only [Option.bind_some]
        rw [Array.getD_eq_getD_getElem?] at hq
        cases hx : a.tmps[t]? with
        | none => rw [hx] at hq; simp [undef] at hq
        | some y => rw [hx] at hq; simp at hq; subst hq; rfl
      have hu : a.tmps.getD t undef = undef → yielded ops a.tmps j = none := by
        intro hq
        unfold yielded
        rw [ht]
        simp only [Option.bind_some]
        rw [Array.getD_eq_getD_getElem?] at hq
        cases hx : a.tmps[t]? with
        | none => rfl
        | some y => rw [hx] at hq; simp at hq; subst hq; rfl
      split at hg
      · rename_i q hl
        rw [hl] at hr
        simp only [Option.some.injEq] at hg
        subst hg
        refine ⟨fun h => (by cases h), fun g hg => ?_⟩
        simp only [Option.some.injEq] at hg
        subst hg
        simp only [hy q hr]
        cases b <;> cases q <;> rfl
      · rename_i g q hl
        rw [hl] at hr
        simp only [Option.some.injEq] at hg
        subst hg
        refine ⟨fun h => (by cases h), fun g' hg => ?_⟩
        simp only [Option.some.injEq] at hg
        subst hg
        cases g with
        | true =>
          simp only [hy q (hr.1 rfl)]
          cases b <;> cases q <;> rfl
        | false => simp only [hu (hr.2 rfl), Bool.false_and]; cases b <;> rfl
      · cases hg

theorem wpOps_do {P : Program} {ops : Array Oper} {Q : Exit → Act → World → Prop} {i : Nat} {l : List Nat} {a : Act} {w w' : World} {o : Oper} {y : Value}
    (ho : ops[i]? = some o) (hw : Region.wanted o (yielded ops a.tmps) = true) (hr : (execOp a.eval o).run P w = .ok (.value y) w') (h : wpOps P ops Q l (a.put o.dst y) w') : wpOps P ops Q (i :: l) a w := by
  simp only [wpOps, ho, hw, if_true]
  exact .inl (by simp only [Oper.wp, hr, Oper.upon]; exact h)
theorem wpOps_doSkip {P : Program} {ops : Array Oper} {Q : Exit → Act → World → Prop} {i : Nat} {l : List Nat} {a : Act} {w w' : World} {o : Oper}
    (ho : ops[i]? = some o) (hw : Region.wanted o (yielded ops a.tmps) = true) (hr : (execOp a.eval o).run P w = .ok .skip w') (h : wpOps P ops Q l (a.put o.dst undef) w') : wpOps P ops Q (i :: l) a w := by
  simp only [wpOps, ho, hw, if_true]
  exact .inl (by simp only [Oper.wp, hr, Oper.upon]; exact h)
theorem wpOps_not {P : Program} {ops : Array Oper} {Q : Exit → Act → World → Prop} {i : Nat} {l : List Nat} {a : Act} {w : World} {o : Oper}
    (ho : ops[i]? = some o) (hw : Region.wanted o (yielded ops a.tmps) = false) (h : wpOps P ops Q l (a.put o.dst undef) w) : wpOps P ops Q (i :: l) a w := by
  simp only [wpOps, ho, hw, Bool.false_eq_true, if_false]
  exact h

theorem dst_lt {N : Nat} {d : Option Nat} (h : dstOk N d = true) : ∀ t, d = some t → t < N := by
  intro t ht; subst ht; simpa [dstOk] using h

/-- A value comes and memory stays (or the operation isn't wanted). -/
theorem WO.val {P : Program} {N : Nat} {ops : Array Oper} {i : Nat} {l : List Nat} {st : ASt} {Q : Exit → ASt → Prop} {o : Oper} {G : Option Bool} {av : AV} (ho : ops[i]? = some o) (hd : dstOk N o.dst = true)
    (hg : guardOf st.fr ops o = some G) (hv : ∀ E τ S a w, Cfg E τ S st a w → (∀ g, G = some g → g = true) → Ans P a.eval o τ S w av) (k : WO P N ops l ⟨putF st.fr o.dst (gdA G av), st.hp⟩ Q) : WO P N ops (i :: l) st Q := by
  intro E τ S a w hE h
  obtain ⟨w1, w2⟩ := wanted_of h hg
  have hd' : ∀ t, o.dst = some t → t < E.N := hE ▸ dst_lt hd
  have go : (∀ g, G = some g → g = true) → Region.wanted o (yielded ops a.tmps) = true → wpOps P ops (Post E Q) (i :: l) a w := by
    intro hG hw
    obtain ⟨y, hy, hr⟩ := hv E τ S a w h hG
    exact wpOps_do ho hw hy (k E τ S _ w hE (h.put hd' (gdA_rel hG hr)))
  cases G with
  | none => exact go (fun g h => by cases h) (w1 rfl)
  | some g =>
    cases g with
    | true => exact go (fun g h => by cases h; rfl) (w2 true rfl)
    | false => exact wpOps_not ho (w2 false rfl) (k E τ S _ w hE (h.put hd' gdA_undef))

theorem pick_ans {P : Program} {G : Option Bool} {c a b : Operand} {fr} {p : Ob} {r : AV} {o : Oper} (ho : o.op = .pick c a b) (h : xPick G (opA fr c) (opA fr a) (opA fr b) = some (p, r)) (hp : ob p)
    {ρ : Operand → Value} {τ S w} (hr : ∀ x, RelA τ S w (opA fr x) (ρ x)) (hG : ∀ g, G = some g → g = true) : Ans P ρ o τ S w r := by
  unfold xPick at h
  split at h
  · rename_i t u v hc ha hb
    cases hm : mergeV t u v with
    | none => simp [hm] at h
    | some m =>
      simp only [hm, Option.map_some, Option.some.injEq, Prod.mk.injEq] at h
      obtain ⟨rfl, rfl⟩ := h
      obtain ⟨h1, h2⟩ := obAnd_iff hp
      obtain ⟨h2, h3⟩ := obAnd_iff h2
      have hcv := strip_rel (hr c) h1 hG
      rw [hc] at hcv
      have hcv : ρ c = .bool t := hcv
      have side : ∀ (x : Operand) (want : Bool) (z : Value), ob (owePick G t want (opA fr x)) → stripA (opA fr x) = .c (.d (.v z)) → t = want → ρ x = z := by
        intro x want z hox hz ht
        have : ob (owe1 G (opA fr x)) := by
          cases hx : opA fr x with
          | gd g y =>
            rw [hx] at hox
            cases G with
            | none => exact hox ht
            | some G => exact fun hG' => hox hG' ht
          | _ => trivial
        have := strip_rel (hr x) this hG
        rw [hz] at this
        exact this
      refine ⟨m, ?_, rfl⟩
      rw [mergeV_eq hm]
      cases t with
      | true => simp [execOp, ho, hcv, asBool, side a true u h2 ha rfl]
      | false => simp [execOp, ho, hcv, asBool, side b false v h3 hb rfl]
  · cases h

theorem rep_rel {τ S w} {z : Value} (n : Nat) (h1 : z.cells.all (·.oneCell') = true) (h2 : 0 < z.cells.size) : RelCs τ S w (repC z n) ((Array.range n).map (z.cells[· % z.cells.size]!)).toList := by
  have : ∀ l : List Nat, RelCs τ S w (l.map fun k => .d (.v (z.cells.getD (k % z.cells.size) undef))) (l.map (z.cells[· % z.cells.size]!)) := by
    intro l
    induction l with
    | nil => trivial
    | cons k l ih =>
      have hk : k % z.cells.size < z.cells.size := Nat.mod_lt _ h2
      have e1 : z.cells[k % z.cells.size]! = z.cells[k % z.cells.size] := by simp [hk]
      have e2 : z.cells.getD (k % z.cells.size) undef = z.cells[k % z.cells.size] := by simp [hk]
      refine ⟨⟨?_, ?_⟩, ih⟩
      · simp only [e1]
        have := Array.all_eq_true.1 h1 (k % z.cells.size) hk
        exact this
      · simp only [e1, e2]; rfl
  have e := this (List.range n)
  simpa [repC] using e

theorem dataOf_rel {τ S w} : ∀ {cs : List C} {ds : List DV} {us : List Value}, dataOf cs = some ds → RelCs τ S w cs us → ds.length = us.length ∧ ∀ j, j < ds.length → ∃ u, us[j]? = some u ∧ u.oneCell' = true ∧ RelD S w (ds.getD j (.v undef)) u
  | [], ds, [], h, _ => by simp [dataOf] at h; subst h; exact ⟨rfl, fun j hj => by simp at hj⟩
  | [], _, _ :: _, _, h => h.elim
  | _ :: _, _, [], _, h => h.elim
  | c :: cs, ds, u :: us, h, ⟨⟨h1, h2⟩, h3⟩ => by
    unfold dataOf at h
    split at h
    · cases ‹_ :: _ = []›
    · rename_i x l he
      simp only [List.cons.injEq] at he
      obtain ⟨rfl, rfl⟩ := he
      cases hq : dataOf cs with
      | none => simp [hq] at h
      | some ds' =>
        simp only [hq, Option.map_some, Option.some.injEq] at h
        subst h
        obtain ⟨hl, hat⟩ := dataOf_rel hq h3
        refine ⟨by simp [hl], fun j hj => ?_⟩
        cases j with
        | zero => exact ⟨u, by simp, h1, h2⟩
        | succ j =>
          obtain ⟨v, hv1, hv2, hv3⟩ := hat j (by simpa using hj)
          exact ⟨v, by simpa using hv1, hv2, by simpa using hv3⟩
    · cases h

theorem boxed {E τ S st a w} (h : Cfg E τ S st a w) {e : Nat} {cs : List C} {us : List Value} (hr : RelCs τ S w cs us) {id : Nat} (hid : newId ≤ id) (hf : frFresh id st.fr = true) (hf' : hpFresh id st.hp = true) (hcs : csHas id cs = false) :
    Cfg E (upd τ id (.slice (some ⟨w.heap.size, 0, none⟩) 1 1)) S ⟨st.fr, (id, .box e cs) :: st.hp⟩ a (w.alloc (.cells us.toArray e)) := by
  refine h.fresh hid hf hf' (World.grownBy_alloc w _ none) (fun b hb => by simp [Value.ownBlock] at hb; omega) ?_
  refine ⟨w.heap.size, us, rfl, heap_alloc_new w _, ?_⟩
  exact hr.mono (stays_of (World.grownBy_alloc w _ none) (fun _ h => h) h.hp.s (fun b hb => by cases hb)) (fun i hi => upd_ne fun e => by subst e; rw [hcs] at hi; cases hi)

theorem avCells_fresh {hp : List (Nat × Ct)} {id : Nat} {x : AV} {cs : List C} (h : avCells hp x = some cs) (hx : x.has id = false) : csHas id cs = false := by
  unfold avCells at h
  split at h
  · split at h
    · simp only [Option.some.injEq] at h; subst h
      simpa [csHas, AV.has, AV.hasB] using hx
    · cases h
  · simp only [Option.some.injEq] at h; subst h
    simpa [AV.has, AV.hasB] using hx
  · cases h
theorem zeroC_fresh {z : Value} {cs : List C} {id : Nat} (h : zeroC z = some cs) : csHas id cs = false := by
  unfold zeroC at h
  split at h
  · simp only [Option.some.injEq] at h; subst h
    generalize z.cells.toList = l
    induction l with
    | nil => rfl
    | cons x l ih => simp [csHas, C.has, ih]
  · cases h
theorem opA_fresh {fr : List (Nat × AV)} {id : Nat} (h : frFresh id fr = true) (x : Operand) : (opA fr x).has id = false := by
  cases x with
  | tmp t =>
    rcases lk_mem (fr := fr) (t := t) with hd | hm
    · simp [opA, hd, AV.has, AV.hasB]
    · exact frFresh_spec h _ hm
  | _ => rfl

theorem WO.buildS {P : Program} {N : Nat} {ops : Array Oper} {i : Nat} {l : List Nat} {st : ASt} {Q : Exit → ASt → Prop} {o : Oper} {t len : Nat} {parts : Array (Nat × Operand)} {av : AV} (ho : ops[i]? = some o)
    (hop : o.op = .buildSlice t len parts) (hg : guardOf st.fr ops o = some none) (hd : dstOk N o.dst = true) (h : xBuildS P st.hp (opA st.fr) t len parts = some av) (k : WO P N ops l ⟨putF st.fr o.dst av, st.hp⟩ Q) : WO P N ops (i :: l) st Q := by
  unfold xBuildS at h
  split at h
  · rename_i e hu
    split at h
    · rename_i ie hie
      split at h
      · rename_i z hz
        split at h
        · rename_i hcnd
          split at h
          · rename_i cs hfill
            split at h
            · rename_i ds hds
              simp only [Option.some.injEq] at h
              subst h
              intro E τ S a w hE hC
              obtain ⟨w1, _⟩ := wanted_of hC hg
              obtain ⟨us, hf1, hf2⟩ := fillC_rel (τ := τ) (S := S) (w := w) hC.hp (fun i => some (i * ie.size, ie.size)) (ρA := opA st.fr) (ρ := a.eval) parts.toList (fun x _ => hC.opA x.2) (rep_rel (len * ie.size) hcnd.2.2.1 hcnd.2.2.2) hfill
              have hrun := run_buildSlice (P := P) w t e len (parts.map fun (i, x) => (i, a.eval x)) us ie z hu hie hz (by omega) (by omega) (by simpa using hf1)
              refine wpOps_do ho (w1 rfl) (y := .slice (some ⟨w.heap.size, 0, none⟩) len len) (w' := w.alloc (.cells us e)) ?_ ?_
              · simp [execOp, hop, hrun]
              · have hC' := hC.share (World.grownBy_alloc w (.cells us e) none)
                refine k E _ _ _ _ hE (Cfg.put hC' (hE ▸ dst_lt hd) ?_)
                refine ⟨_, _, rfl, Nat.le_refl _, fun _ => ⟨w.heap.size, 0, rfl, .inr ⟨Nat.le_refl _, by simp⟩, fun i hi j hj => ?_⟩⟩
                have hlen : ds.length = len * ie.size := by
                  have h1 := (dataOf_rel hds hf2).1
                  have h2 := hf2.len
                  have : (repC z (len * ie.size)).length = len * ie.size := by simp [repC]
                  have h3 : cs.length = (repC z (len * ie.size)).length := by
                    have gen : ∀ (ps : List (Nat × AV)) (c c' : List C), fillC st.hp (fun i => some (i * ie.size, ie.size)) c ps = some c' → c'.length = c.length := by
                      intro ps
                      induction ps with
                      | nil => intro c c' h; simp [fillC] at h; rw [h]
                      | cons q ps ih =>
                        obtain ⟨i, v⟩ := q
                        intro c c' h
                        simp only [fillC] at h
                        split at h
                        · split at h
                          · cases h
                          · rename_i hcc
                            have := ih _ _ h
                            rw [this]
                            simp only [Bool.or_eq_true, decide_eq_true_eq, not_or, Nat.not_lt] at hcc
                            simp [setMany]; omega
                        · cases h
                    exact gen _ _ _ hfill
                  omega
                have hlt : i * ie.size + j < ds.length := by
                  rw [hlen]
                  have : (i + 1) * ie.size ≤ len * ie.size := Nat.mul_le_mul_right _ hi
                  rw [Nat.add_mul, Nat.one_mul] at this
                  omega
                obtain ⟨u, hu1, hu2, hu3⟩ := (dataOf_rel hds hf2).2 _ hlt
                refine ⟨u, by rw [Nat.zero_add, World.cell?_alloc_new]; simpa using hu1, hu2, ?_⟩
                rw [litGet_eq hj hlt]
                exact RelD.mono (fun b hb => .inl hb) (fun b hb => (World.grownBy_alloc w _ none).block b (hC.hp.s b hb) (by simp)) _ _ hu3
            · cases h
          · cases h
        · cases h
      · cases h
    · cases h
  · cases h

theorem WO.step {P : Program} {N : Nat} {ops : Array Oper} {i nx nx' : Nat} {l : List Nat} {st st' : ASt} {Q : Exit → ASt → Prop} {o : Oper} {p : Ob} (ho : ops[i]? = some o) (h : astep P N ops o st nx = some (p, st', nx')) (hp : ob p)
    (k : WO P N ops l st' Q) : WO P N ops (i :: l) st Q := by
  unfold astep at h
  split at h
  case isFalse => cases h
  rename_i hd
  cases hg : guardOf st.fr ops o with
  | none => simp [hg] at h
  | some G =>
    simp only [hg] at h
    split at h
    · -- pick
      rename_i c a b hop
      cases hx : xPick G (opA st.fr c) (opA st.fr a) (opA st.fr b) with
      | none => simp [hx] at h
      | some r =>
        simp only [hx, Option.map_some, Option.some.injEq, Prod.mk.injEq] at h
        obtain ⟨rfl, rfl, rfl⟩ := h
        exact WO.val ho hd hg (fun E τ S a' w hc hG => pick_ans (r := r.2) hop hx hp (fun x => hc.opA x) hG) k
    · -- store
      rename_i t x y hop
      split at h
      · rename_i id sz j vs hx hvs
        split at h
        · rename_i ety cs hl
          split at h
          · rename_i hc
            simp only [Option.some.injEq, Prod.mk.injEq] at h
            obtain ⟨rfl, rfl, rfl⟩ := h
            intro E τ S a w hE hC
            obtain ⟨w1, _⟩ := wanted_of hC hg
            have hrx := hC.opA x
            rw [hx] at hrx
            obtain ⟨b, hb, hy⟩ := hrx
            obtain ⟨b', us, hτ, hh, hrc⟩ := hC.hp.box hl
            have hbb : b' = b := by rw [hτ] at hb; simpa [Value.ownBlock] using hb
            subst hbb
            have hrel := avCells_rel hC.hp hvs (hC.opA y)
            obtain ⟨w', hrun, hgw, hsz, hheap⟩ := storeVar_run (P := P) (b := b') (o := j) (t := t) (y := a.eval y) hh (.inl rfl) (by rw [hc.1, hrel.len]; simp) (by have := hrel.len; have := hrc.len; simp at *; omega) (fun v hv => hrel.ones v hv)
            refine wpOps_doSkip ho (w1 rfl) (w' := w') ?_ ?_
            · simp only [Nat.zero_mul, Nat.zero_add] at hy
              simp [execOp, hop, hy, Instr.storeAt, Instr.sureAddr, hrun]
            · have hst : Stays τ τ S S w w' := stays_of hgw (fun _ h => h) hC.hp.s (fun b hb hs => by cases hb; exact hC.hp.ss _ hs _ (lkH_mem hl) (by rw [hτ]; rfl))
              have hC' := hC.write hl (w' := w') (b := b') (by rw [hτ]; rfl) hgw (ct' := .box ety (setMany cs j vs)) ⟨b', setMany us j (a.eval y).cells.toList, hτ, hheap, (hrc.setMany j hrel).mono hst (fun _ _ => rfl)⟩
              exact k E τ S _ w' hE (hC'.put (hE ▸ dst_lt hd) trivial)
          · cases h
        · cases h
      · cases h
    · -- alloc
      rename_i e hop
      split at h
      · rename_i ii hi
        split at h
        · rename_i z hz
          split at h
          · rename_i cs hcs
            split at h
            · rename_i hf
              simp only [Bool.and_eq_true, decide_eq_true_eq] at hf
              simp only [Option.some.injEq, Prod.mk.injEq] at h
              obtain ⟨rfl, rfl, rfl⟩ := h
              intro E τ S a w hE hC
              obtain ⟨w1, _⟩ := wanted_of hC hg
              have hb := boxed hC (e := e) (zeroC_rel' (τ := τ) (S := S) (w := w) hcs) hf.1 hf.2.1 hf.2.2 (zeroC_fresh hcs)
              refine wpOps_do ho (w1 rfl) (y := .pointer (some ⟨w.heap.size, 0, none⟩)) (w' := w.alloc (.cells z.cells e)) ?_ ?_
              · simp [execOp, hop, Instr.alloc, zeroValue, typeInfo, hi, hz, newVar, newRow]
              · exact k E _ S _ _ hE (Cfg.put (v := .c (.np nx cs.length 0 0)) (y := .pointer (some ⟨w.heap.size, 0, none⟩)) (by simpa using hb) (hE ▸ dst_lt hd) (show ∃ b, (upd τ nx (.slice (some ⟨w.heap.size, 0, none⟩) 1 1) nx).ownBlock = some b ∧ Value.pointer (some ⟨w.heap.size, 0, none⟩) = .pointer (some ⟨b, 0 * cs.length + 0, none⟩) from ⟨w.heap.size, by simp [upd_same, Value.ownBlock], by simp⟩))
            · cases h
          · cases h
        · cases h
      · cases h
    · -- box
      rename_i e x hop
      split at h
      · rename_i cs hcs
        split at h
        · rename_i hf
          simp only [Bool.and_eq_true, decide_eq_true_eq] at hf
          simp only [Option.some.injEq, Prod.mk.injEq] at h
          obtain ⟨rfl, rfl, rfl⟩ := h
          intro E τ S a w hE hC
          obtain ⟨w1, _⟩ := wanted_of hC hg
          have hb := boxed hC (e := e) (avCells_rel hC.hp hcs (hC.opA x)) hf.1 hf.2.1 hf.2.2 (avCells_fresh hcs (opA_fresh hf.2.1 x))
          refine wpOps_do ho (w1 rfl) (y := .pointer (some ⟨w.heap.size, 0, none⟩)) (w' := w.alloc (.cells (a.eval x).cells e)) ?_ ?_
          · simp [execOp, hop, Instr.box, newVar, newRow]
          · exact k E _ S _ _ hE (Cfg.put (v := .c (.np nx cs.length 0 0)) (y := .pointer (some ⟨w.heap.size, 0, none⟩)) (by simpa using hb) (hE ▸ dst_lt hd) (show ∃ b, (upd τ nx (.slice (some ⟨w.heap.size, 0, none⟩) 1 1) nx).ownBlock = some b ∧ Value.pointer (some ⟨w.heap.size, 0, none⟩) = .pointer (some ⟨b, 0 * cs.length + 0, none⟩) from ⟨w.heap.size, by simp [upd_same, Value.ownBlock], by simp⟩))
        · cases h
      · cases h
    · -- buildSlice
      rename_i t len parts hop
      split at h
      · rename_i av hb
        simp only [Option.some.injEq, Prod.mk.injEq] at h
        obtain ⟨rfl, rfl, rfl⟩ := h
        exact WO.buildS ho hop hg hd hb k
      · cases h
    · -- the rest
      cases hv : pval P st.hp (fun x => stripA (opA st.fr x)) o.op with
      | none => simp [hv] at h
      | some r =>
        obtain ⟨q, av⟩ := r
        simp only [hv, Option.some.injEq, Prod.mk.injEq] at h
        obtain ⟨rfl, rfl, rfl⟩ := h
        obtain ⟨h1, h2⟩ := obAnd_iff hp
        refine WO.val ho hd hg (fun E τ S a w hc hG => ?_) k
        exact pval_sound hv (ob_G h2 hG) hc.hp (fun x hx => strip_rel (hc.opA x) (owes_mem h1 x hx) hG)

end Go.Abs
