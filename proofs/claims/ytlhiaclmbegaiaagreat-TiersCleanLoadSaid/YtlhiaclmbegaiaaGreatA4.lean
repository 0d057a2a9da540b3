/- DERIVED. Own theory, part 4: struct values; all operations that leave memory alone, together. -/
import Derived.Test.YtlhiaclmbegaiaaGreatA3
import Derived.Laws.Tables
set_option linter.unusedVariables false
set_option linter.unusedSimpArgs false
namespace Go.Abs

def C.one (hp : List (Nat × Ct)) : C → Bool
  | .d (.v x) => x.oneCell'
  | .d _ => true
  | .nm id => (lkH hp id).isSome
  | .np _ _ _ _ => true
  | .ns _ _ _ _ => true
theorem C.one_rel {τ S w hp} (hH : HP τ S w hp) {x : C} {y : Value} (h : x.one hp = true) (hr : RelC τ S w x y) : y.oneCell' = true := by
  cases x with
  | d x =>
    cases x with
    | v x => rw [show y = x from hr]; exact h
    | ro sz n g => obtain ⟨a, c, rfl, _⟩ := hr; rfl
    | rp n g => obtain ⟨b, o, rfl, _⟩ := hr; rfl
    | fn f k n g => obtain ⟨us, rfl, _⟩ := hr; rfl
  | nm id =>
    simp only [C.one] at h
    obtain ⟨c, hc⟩ := Option.isSome_iff_exists.1 h
    have := hH.ct _ (lkH_mem hc)
    have hy : y = τ id := hr
    rw [hy]
    cases c with
    | rows ety sz n g =>
      obtain ⟨xs, ho, _⟩ := this
      rcases ho.2 with ⟨hn, _⟩ | ⟨b, cap, cur, fz, hb, _⟩
      · simp only at hn; rw [hn]; rfl
      · simp only at hb; rw [hb]; rfl
    | box ety cs =>
      obtain ⟨b, us, hb, _⟩ := this
      simp only at hb; rw [hb]; rfl
  | np id sz i j => obtain ⟨b, _, rfl⟩ := hr; rfl
  | ns id sz i n => obtain ⟨a, c, rfl, _⟩ := hr; rfl
theorem cells_one {y : Value} (h : y.oneCell' = true) : y.cells = #[y] := by
  cases y <;> first | rfl | simp [Value.oneCell'] at h

/-- The cells of a value that can be laid into memory. -/
def avCells (hp : List (Nat × Ct)) : AV → Option (List C)
  | .c x => if x.one hp then some [x] else none
  | .agg l => some l
  | _ => none
theorem avCells_rel {τ S w hp} (hH : HP τ S w hp) {x : AV} {y : Value} {cs : List C} (h : avCells hp x = some cs) (hr : RelA τ S w x y) : RelCs τ S w cs y.cells.toList := by
  unfold avCells at h
  split at h
  · split at h
    · rename_i x h1
      simp only [Option.some.injEq] at h
      subst h
      have := C.one_rel hH h1 hr
      rw [cells_one this]
      exact ⟨⟨this, hr⟩, trivial⟩
    · cases h
  · simp only [Option.some.injEq] at h
    subst h
    obtain ⟨us, rfl, h⟩ := hr
    exact h
  · cases h

theorem RelCs.len {τ S w} {cs : List C} {us : List Value} (h : RelCs τ S w cs us) : cs.length = us.length := h.at_.1
theorem RelCs.append {τ S w} : ∀ {a b : List C} {u v : List Value}, RelCs τ S w a u → RelCs τ S w b v → RelCs τ S w (a ++ b) (u ++ v)
  | [], _, [], _, _, h => h
  | [], _, _ :: _, _, h, _ => h.elim
  | _ :: _, _, [], _, h, _ => h.elim
  | _ :: _, _, _ :: _, _, ⟨h1, h2⟩, h => ⟨h1, h2.append h⟩
theorem RelCs.take {τ S w} : ∀ {a : List C} {u : List Value} (n : Nat), RelCs τ S w a u → RelCs τ S w (a.take n) (u.take n)
  | [], [], n, _ => by simp [RelCs]
  | [], _ :: _, _, h => h.elim
  | _ :: _, [], _, h => h.elim
  | _ :: _, _ :: _, 0, _ => trivial
  | _ :: _, _ :: _, n + 1, ⟨h1, h2⟩ => ⟨h1, h2.take n⟩
theorem RelCs.drop {τ S w} : ∀ {a : List C} {u : List Value} (n : Nat), RelCs τ S w a u → RelCs τ S w (a.drop n) (u.drop n)
  | [], [], n, _ => by simp [RelCs]
  | [], _ :: _, _, h => h.elim
  | _ :: _, [], _, h => h.elim
  | _ :: _, _ :: _, 0, h => h
  | _ :: _, _ :: _, n + 1, ⟨_, h2⟩ => h2.drop n

def setMany {α : Type} (l : List α) (off : Nat) (vs : List α) : List α := l.take off ++ vs ++ l.drop (off + vs.length)
theorem RelCs.setMany {τ S w} {a b : List C} {u v : List Value} (off : Nat) (h : RelCs τ S w a u) (h' : RelCs τ S w b v) : RelCs τ S w (setMany a off b) (setMany u off v) := by
  unfold Abs.setMany
  rw [h'.len]
  exact ((h.take off).append h').append (h.drop _)
theorem foldl_set (vs : List Value) : ∀ (us : Array Value) (off n : Nat), off + n + vs.length ≤ us.size →
    ((vs.zipIdx n).foldl (fun cs (c, j) => cs.setIfInBounds (off + j) c) us).toList = setMany us.toList (off + n) vs := by
  induction vs with
  | nil => intro us off n _; simp [setMany]
  | cons v vs ih =>
    intro us off n hle
    simp only [List.length_cons] at hle
    simp only [List.zipIdx_cons, List.foldl_cons]
    rw [ih (us.setIfInBounds (off + n) v) off (n + 1) (by simp; omega)]
    unfold setMany
    simp only [Array.toList_setIfInBounds, List.length_cons]
    rw [List.take_set, show off + (n + 1) = off + n + 1 from by omega, List.drop_set_of_lt (by omega)]
    rw [List.take_succ_eq_append_getElem (by simp; omega)]
    rw [List.set_append_right _ _ (by simp; omega)]
    simp only [List.length_take, Array.length_toList]
    rw [show min (off + n) us.size = off + n from by omega, Nat.sub_self]
    simp only [List.set_cons_zero, List.append_assoc, List.singleton_append]
    rw [show off + n + 1 + vs.length = off + n + (vs.length + 1) from by omega]

def fillC (hp : List (Nat × Ct)) (place : Nat → Option (Nat × Nat)) (cells : List C) : List (Nat × AV) → Option (List C)
  | [] => some cells
  | (i, v) :: rest =>
    match place i, avCells hp v with
    | some (off, size), some vs => if vs.length ≠ size || off + vs.length > cells.length then none else fillC hp place (setMany cells off vs) rest
    | _, _ => none
theorem fillC_rel {τ S w hp} (hH : HP τ S w hp) (place : Nat → Option (Nat × Nat)) {ρA : Operand → AV} {ρ : Operand → Value} : ∀ (parts : List (Nat × Operand)) {cells r : List C} {us : Array Value},
    (∀ x ∈ parts, RelA τ S w (ρA x.2) (ρ x.2)) → RelCs τ S w cells us.toList → fillC hp place cells (parts.map fun x => (x.1, ρA x.2)) = some r →
    ∃ us', Instr.fill place us (parts.map fun x => (x.1, ρ x.2)) = some us' ∧ RelCs τ S w r us'.toList
  | [], cells, r, us, _, hr, h => by
    simp [fillC] at h; subst h
    exact ⟨us, rfl, hr⟩
  | (i, x) :: parts, cells, r, us, hp', hr, h => by
    simp only [List.map_cons, fillC] at h
    split at h
    · rename_i off size vs h1 h2
      split at h
      · cases h
      · rename_i hcnd
        have hrel := avCells_rel hH h2 (hp' (i, x) (by simp))
        have hlen := hrel.len
        have hl2 := hr.len
        simp only [Bool.or_eq_true, decide_eq_true_eq, not_or, ne_eq, Decidable.not_not, Nat.not_lt, Array.length_toList] at hcnd hlen hl2
        have hs := foldl_set (ρ x).cells.toList us off 0 (by simp; omega)
        simp only [Nat.add_zero] at hs
        have hfold : ((ρ x).cells.zipIdx.foldl (fun cs (c, j) => cs.setIfInBounds (off + j) c) us).toList = setMany us.toList off (ρ x).cells.toList := by
          rw [← hs, ← Array.foldl_toList, Array.toList_zipIdx]
        obtain ⟨us', hf, hr'⟩ := fillC_rel hH place parts (us := (ρ x).cells.zipIdx.foldl (fun cs (c, j) => cs.setIfInBounds (off + j) c) us)
          (fun y hy => hp' y (List.mem_cons_of_mem _ hy)) (by rw [hfold]; exact hr.setMany off hrel) h
        refine ⟨us', ?_, hr'⟩
        have hcnd2 : ((ρ x).cells.size ≠ size || off + (ρ x).cells.size > us.size) = false := by
          simp only [Bool.or_eq_false_iff, decide_eq_false_iff_not, ne_eq, Decidable.not_not, Nat.not_lt]
          omega
        simp only [List.map_cons, Instr.fill, h1, hcnd2, Bool.false_eq_true, if_false]
        exact hf
    · cases h

def zeroC (z : Value) : Option (List C) := if z.cells.all (·.oneCell') then some (z.cells.toList.map fun x => .d (.v x)) else none
theorem zeroC_rel {τ S w} : ∀ {l : List Value}, l.all (·.oneCell') = true → RelCs τ S w (l.map fun x => .d (.v x)) l
  | [], _ => trivial
  | x :: l, h => by
    simp only [List.all_cons, Bool.and_eq_true] at h
    exact ⟨⟨h.1, rfl⟩, zeroC_rel h.2⟩
theorem zeroC_rel' {τ S w} {z : Value} {cs : List C} (h : zeroC z = some cs) : RelCs τ S w cs z.cells.toList := by
  unfold zeroC at h
  split at h
  · rename_i ha
    simp only [Option.some.injEq] at h
    subst h
    exact zeroC_rel (by simpa using ha)
  · cases h

def xBuild (P : Program) (hp : List (Nat × Ct)) (t : Nat) (parts : List (Nat × AV)) : Option (Ob × AV) :=
  match P.info? t, P.underlying t with
  | some it, some (.array _ e) =>
    match it.zero, P.info? e with
    | some z, some ie => (zeroC z).bind fun cs => (fillC hp (fun i => some (i * ie.size, ie.size)) cs parts).map fun r => (none, .agg r)
    | _, _ => none
  | some it, some (.struct fields) =>
    match it.zero, fields.toList.mapM (fun f => (P.info? f.type).map fun i => (f.offset, i.size)) with
    | some z, some places => (zeroC z).bind fun cs => (fillC hp (places.toArray[·]?) cs parts).map fun r => (none, .agg r)
    | _, _ => none
  | _, _ => none
theorem xBuild_sound {P : Program} {hp : List (Nat × Ct)} {t : Nat} {parts : Array (Nat × Operand)} {r : AV} {p : Ob} {ρA : Operand → AV} {ρ : Operand → Value} {τ S w}
    (h : xBuild P hp t (parts.toList.map fun x => (x.1, ρA x.2)) = some (p, r)) (hH : HP τ S w hp) (hx : ∀ x ∈ parts.toList, RelA τ S w (ρA x.2) (ρ x.2)) {o : Oper} (ho : o.op = .build t parts) : Ans P ρ o τ S w r := by
  have fin : ∀ (place : Nat → Option (Nat × Nat)) (z : Value), ((zeroC z).bind fun cs => (fillC hp place cs (parts.toList.map fun x => (x.1, ρA x.2))).map fun r => ((none : Ob), AV.agg r)) = some (p, r) →
      ∃ us', Instr.fill place z.cells (parts.toList.map fun x => (x.1, ρ x.2)) = some us' ∧ RelA τ S w r (.agg us') := by
    intro place z hb
    cases hz : zeroC z with
    | none => simp [hz] at hb
    | some cs =>
      cases hf : fillC hp place cs (parts.toList.map fun x => (x.1, ρA x.2)) with
      | none => simp [hz, hf] at hb
      | some q =>
        simp [hz, hf] at hb
        obtain ⟨rfl, rfl⟩ := hb
        obtain ⟨us', h1, h2⟩ := fillC_rel hH place parts.toList hx (zeroC_rel' hz) hf
        exact ⟨us', h1, us'.toList, by simp, h2⟩
  have fin2 : ∀ us', P.built t (parts.toList.map fun x => (x.1, ρ x.2)) = some us' → RelA τ S w r (.agg us') → Ans P ρ o τ S w r := by
    intro us' hb hr
    refine ⟨.agg us', ?_, hr⟩
    have := run_build (P := P) w t (parts.map fun (i, x) => (i, ρ x)) us' (by simpa using hb)
    simp [execOp, ho, this]
  unfold xBuild at h
  unfold Program.built at fin2
  cases hi : P.info? t with
  | none => simp [hi] at h
  | some it =>
    cases hu : P.underlying t with
    | none => simp [hi, hu] at h
    | some d =>
      cases d with
      | array n e =>
        simp only [hi, hu] at h fin2
        cases hz : it.zero with
        | none => simp [hz] at h
        | some z =>
          cases he : P.info? e with
          | none => simp [hz, he] at h
          | some ie =>
            simp only [hz, he] at h fin2
            obtain ⟨us', h1, h2⟩ := fin _ _ h
            exact fin2 us' h1 h2
      | struct fields =>
        simp only [hi, hu] at h fin2
        cases hz : it.zero with
        | none => simp [hz] at h
        | some z =>
          cases hm : fields.toList.mapM (fun f => (P.info? f.type).map fun i => (f.offset, i.size)) with
          | none => simp [hz, hm] at h
          | some places =>
            simp only [hz, hm] at h fin2
            obtain ⟨us', h1, h2⟩ := fin _ _ h
            exact fin2 us' h1 h2
      | _ => simp [hi, hu] at h

/-- A part of a struct's value. -/
def xPart (P : Program) (s f : Nat) : AV → Option (Ob × AV)
  | .agg l =>
    match P.underlying s with
    | some (.struct fields) => match fields[f]? with
      | some fd => match aggOf P fd.type with
        | some none => if fd.offset < l.length then some (none, .c (l.getD fd.offset (.d (.v undef)))) else none
        | some (some n) => some (none, .agg ((l.drop fd.offset).take n))
        | none => none
      | none => none
    | _ => none
  | _ => none
theorem isAgg_run {P : Program} {t : Nat} {k : Option Nat} (h : aggOf P t = some k) (w : World) : (isAgg t).run P w = .ok k.isSome w ∧ ∀ n, k = some n → (sizeOf t).run P w = .ok n w := by
  unfold aggOf at h
  split at h
  · rename_i fs i hu hi
    simp only [Option.some.injEq] at h; subst h
    exact ⟨by simp [isAgg, run_underlying hu], fun n hn => by simp at hn; subst hn; simp [sizeOf, typeInfo, hi]⟩
  · rename_i m e i hu hi
    simp only [Option.some.injEq] at h; subst h
    exact ⟨by simp [isAgg, run_underlying hu], fun n hn => by simp at hn; subst hn; simp [sizeOf, typeInfo, hi]⟩
  · rename_i d i h1 h2 hi _
    simp only [Option.some.injEq] at h; subst h
    refine ⟨?_, fun n hn => by cases hn⟩
    unfold isAgg
    rw [Sem.run_bind, run_underlying hi w]
    cases d <;> simp_all
  · cases h
theorem xPart_sound {P : Program} {s f : Nat} {x : Operand} {av r : AV} {p : Ob} {ρ : Operand → Value} {τ S w}
    (h : xPart P s f av = some (p, r)) (hx : RelA τ S w av (ρ x)) {o : Oper} (ho : o.op = .field s x f) : Ans P ρ o τ S w r := by
  unfold xPart at h
  split at h
  · rename_i l
    split at h
    · rename_i fields hu
      split at h
      · rename_i fd hf
        obtain ⟨us, hy, hr⟩ := hx
        split at h
        · rename_i ha
          obtain ⟨hag, _⟩ := isAgg_run ha w
          split at h
          · rename_i hlt
            simp only [Option.some.injEq, Prod.mk.injEq] at h
            obtain ⟨rfl, rfl⟩ := h
            obtain ⟨u, hu1, hu2, hu3⟩ := hr.at_.2 _ hlt
            exact ⟨u, by simp [execOp, ho, hy, Instr.field, run_underlying hu, hf, asAgg, part, hag, hu1], hu3⟩
          · cases h
        · rename_i n ha
          obtain ⟨hag, hsz⟩ := isAgg_run ha w
          simp only [Option.some.injEq, Prod.mk.injEq] at h
          obtain ⟨rfl, rfl⟩ := h
          refine ⟨.agg (us.toArray.extract fd.offset (fd.offset + n)), by simp [execOp, ho, hy, Instr.field, run_underlying hu, hf, asAgg, part, hag, hsz n rfl], (us.drop fd.offset).take n, ?_, (hr.drop _).take _⟩
          simp
        · cases h
      · cases h
    · cases h
  · cases h

def xNil : AV → Option (Ob × AV)
  | .c (.d (.rp n g)) => some (none, .c (.d (.rp n g)))
  | .c (.np id sz i j) => some (none, .c (.np id sz i j))
  | _ => none
theorem xNil_sound {P : Program} {x : Operand} {av r : AV} {p : Ob} {ρ : Operand → Value} {τ S w}
    (h : xNil av = some (p, r)) (hx : RelA τ S w av (ρ x)) {o : Oper} (ho : o.op = .nilCheck x) : Ans P ρ o τ S w r := by
  unfold xNil at h
  split at h
  · simp only [Option.some.injEq, Prod.mk.injEq] at h
    obtain ⟨rfl, rfl⟩ := h
    have hx0 := hx
    obtain ⟨b, o0, hy, _⟩ := hx0
    exact ⟨ρ x, by simp [execOp, ho, hy], hx⟩
  · simp only [Option.some.injEq, Prod.mk.injEq] at h
    obtain ⟨rfl, rfl⟩ := h
    have hx0 := hx
    obtain ⟨b, _, hy⟩ := hx0
    exact ⟨ρ x, by simp [execOp, ho, hy], hx⟩
  · cases h

/-- A function literal that holds read-only pointers. -/
def rpsOf : List AV → Option (List (Nat × (Nat → DV)))
  | [] => some []
  | .c (.d (.rp n g)) :: l => (rpsOf l).map ((n, g) :: ·)
  | _ :: _ => none
def capN (l : List Nat) (i : Nat) : Nat := l.getD i 0
def capG (l : List (Nat → DV)) (i : Nat) : Nat → DV := l.getD i fun _ => .v undef
theorem rpsOf_rel {τ S w} : ∀ {l : List AV} {us : List Value} {r : List (Nat × (Nat → DV))}, rpsOf l = some r → l.length = us.length → (∀ (k : Nat) (a : AV) (u : Value), l[k]? = some a → us[k]? = some u → RelA τ S w a u) →
    us.length = r.length ∧ ∀ i, i < r.length → ∃ b o, us[i]? = some (.pointer (some ⟨b, o, none⟩)) ∧ S b ∧ ∀ j, j < capN (r.map (·.1)) i → ∃ u, w.cell? ⟨b, o + j, none⟩ = some u ∧ u.oneCell' = true ∧ RelD S w (capG (r.map (·.2)) i j) u
  | [], [], r, h, _, _ => by simp [rpsOf] at h; subst h; exact ⟨rfl, fun i hi => absurd hi (by simp)⟩
  | [], _ :: _, _, _, hl, _ => by simp at hl
  | _ :: _, [], _, _, hl, _ => by simp at hl
  | a :: l, u :: us, r, h, hl, hr => by
    unfold rpsOf at h
    split at h
    · cases ‹_ :: _ = []›
    · rename_i n g l0 he
      simp only [List.cons.injEq] at he
      obtain ⟨rfl, rfl⟩ := he
      cases hq : rpsOf l with
      | none => simp [hq] at h
      | some r0 =>
        simp only [hq, Option.map_some, Option.some.injEq] at h
        subst h
        obtain ⟨h1, h2⟩ := rpsOf_rel (us := us) hq (by simpa using hl) (fun k a' u' ha hu => hr (k + 1) a' u' (by simpa using ha) (by simpa using hu))
        refine ⟨by simp [h1], fun i hi => ?_⟩
        cases i with
        | zero =>
          obtain ⟨b, o, hu, hb, hc⟩ := hr 0 _ _ rfl rfl
          exact ⟨b, o, by simp [hu], hb, fun j hj => hc j (by simpa [capN] using hj)⟩
        | succ i =>
          obtain ⟨b, o, hu, hb, hc⟩ := h2 i (by simpa using hi)
          exact ⟨b, o, by simpa using hu, hb, fun j hj => by simpa [capG] using hc j (by simpa [capN] using hj)⟩
    · cases h
def xMkFn (fn : Fn) (first : List Operand) (caps : List AV) : Option (Ob × AV) :=
  match fn, first with
  | .func f, [] => (rpsOf caps).map fun r => (none, .c (.d (.fn f r.length (capN (r.map (·.1))) (capG (r.map (·.2))))))
  | _, _ => none
/-- All operations that leave memory alone. -/
def pval (P : Program) (hp : List (Nat × Ct)) (ρ : Operand → AV) : Op → Option (Ob × AV)
  | .move x | .assign x => some (none, ρ x)
  | .binOp op t x y _ => xBin P op t x y (ρ x) (ρ y)
  | .unOp op _ x => xUn P op (ρ x)
  | .convert s d x => xConv P hp s d (ρ x)
  | .extract x k => xExtract k (ρ x)
  | .index t x i => xIndex P t (ρ x) (ρ i)
  | .fieldAddr s x f => xField P s f (ρ x)
  | .field s x f => xPart P s f (ρ x)
  | .indexAddr t x i => xIndexAddr P hp t (ρ x) (ρ i)
  | .load t x => xLoad P hp t (ρ x)
  | .slice t x lo hi none => xSlice P t (lo.map ρ) (hi.map ρ) (ρ x)
  | .nilCheck x => xNil (ρ x)
  | .build t parts => xBuild P hp t (parts.toList.map fun x => (x.1, ρ x.2))
  | .makeFunc fn first caps => xMkFn fn first.toList (caps.toList.map ρ)
  | .call c =>
    match c.callee, c.args.toList, c.argTypes.toList with
    | .builtin .len, [x], [t] => xLen P hp t (ρ x)
    | .builtin .min, l, _ => (exactL (l.map ρ)).bind fun vs => xMM P false vs
    | .builtin .max, l, _ => (exactL (l.map ρ)).bind fun vs => xMM P true vs
    | _, _, _ => none
  | _ => none

theorem pval_sound {P : Program} {hp : List (Nat × Ct)} {ρA : Operand → AV} {ρ : Operand → Value} {o : Oper} {p : Ob} {r : AV} {τ S w}
    (h : pval P hp ρA o.op = some (p, r)) (hp' : ob p) (hH : HP τ S w hp) (hx : ∀ x ∈ o.op.operands.toList, RelA τ S w (ρA x) (ρ x)) : Ans P ρ o τ S w r := by
  cases ho : o.op with
  | move x =>
    simp only [ho, pval, Option.some.injEq, Prod.mk.injEq] at h
    obtain ⟨rfl, rfl⟩ := h
    exact ⟨ρ x, by simp [execOp, ho], hx x (by simp [ho, Op.operands])⟩
  | assign x =>
    simp only [ho, pval, Option.some.injEq, Prod.mk.injEq] at h
    obtain ⟨rfl, rfl⟩ := h
    exact ⟨ρ x, by simp [execOp, ho], hx x (by simp [ho, Op.operands])⟩
  | binOp op t x y ty => rw [ho] at h; exact xBin_sound h hp' (hx x (by simp [ho, Op.operands])) (hx y (by simp [ho, Op.operands])) ho
  | unOp op t x => rw [ho] at h; exact xUn_sound h (hx x (by simp [ho, Op.operands])) ho
  | convert s d x => rw [ho] at h; exact xConv_sound h hp' hH (hx x (by simp [ho, Op.operands])) ho
  | extract x k => rw [ho] at h; exact xExtract_sound h (hx x (by simp [ho, Op.operands])) ho
  | index t x i => rw [ho] at h; exact xIndex_sound h hp' (hx x (by simp [ho, Op.operands])) (hx i (by simp [ho, Op.operands])) ho
  | fieldAddr s x f => rw [ho] at h; exact xField_sound h (hx x (by simp [ho, Op.operands])) ho
  | field s x f => rw [ho] at h; exact xPart_sound h (hx x (by simp [ho, Op.operands])) ho
  | indexAddr t x i => rw [ho] at h; exact xIndexAddr_sound h hp' hH (hx x (by simp [ho, Op.operands])) (hx i (by simp [ho, Op.operands])) ho
  | load t x => rw [ho] at h; exact xLoad_sound h hp' hH (hx x (by simp [ho, Op.operands])) ho
  | nilCheck x => rw [ho] at h; exact xNil_sound h (hx x (by simp [ho, Op.operands])) ho
  | build t parts =>
    rw [ho] at h
    exact xBuild_sound h hH (fun x hm => hx x.2 (by simp only [ho, Op.operands]; simp; exact ⟨x.1, by simpa using hm⟩)) ho
  | makeFunc fn first caps =>
    simp only [ho, pval, xMkFn] at h
    split at h
    · rename_i f hf
      cases hq : rpsOf (caps.toList.map ρA) with
      | none => simp [hq] at h
      | some rr =>
        simp only [hq, Option.map_some, Option.some.injEq, Prod.mk.injEq] at h
        obtain ⟨rfl, rfl⟩ := h
        have hfirst : first = #[] := by apply Array.ext'; simpa using hf
        obtain ⟨h1, h2⟩ := rpsOf_rel (τ := τ) (S := S) (w := w) (us := caps.toList.map ρ) hq (by simp) (fun k a u ha hu => by
          simp only [List.getElem?_map, Option.map_eq_some_iff] at ha hu
          obtain ⟨x, hx1, rfl⟩ := ha
          obtain ⟨x', hx2, rfl⟩ := hu
          rw [hx1] at hx2
          cases hx2
          exact hx x (by simp only [ho, Op.operands]; simp; exact .inr (by simpa using List.mem_of_getElem? hx1)))
        refine ⟨.func (.func f) #[] (caps.toList.map ρ).toArray, ?_, _, rfl, h1, h2⟩
        have e : caps.map ρ = (caps.toList.map ρ).toArray := by apply Array.ext'; simp
        simp [execOp, ho, hfirst, Instr.makeFunc, e]
    · cases h
  | slice t x lo hi mx =>
    cases mx with
    | none =>
      rw [ho] at h
      exact xSlice_sound (ρA := ρA) h hp' (hx x (by simp [ho, Op.operands])) (fun y hy => hx y (by simp [ho, Op.operands, hy])) (fun y hy => hx y (by simp [ho, Op.operands, hy])) ho
    | some m => simp [ho, pval] at h
  | call c =>
    simp only [ho, pval] at h
    split at h
    · rename_i x t h1 h2 h3
      have ha : c.args = #[x] := by apply Array.ext'; simpa using h2
      exact xLen_sound h hH (hx x (by simp [ho, Op.operands, Call.operands, ha])) ho h1 ha (by apply Array.ext'; simpa using h3)
    · rename_i l h1
      cases hq : exactL (c.args.toList.map ρA) with
      | none => simp [hq] at h
      | some vs =>
        simp only [hq, Option.bind_some] at h
        exact xMM_sound (mx := false) h ho (by simpa using h1) hq (fun x hxm => hx x (by simp only [ho, Op.operands, Call.operands]; simp; exact .inr (by simpa using hxm)))
    · rename_i l h1
      cases hq : exactL (c.args.toList.map ρA) with
      | none => simp [hq] at h
      | some vs =>
        simp only [hq, Option.bind_some] at h
        exact xMM_sound (mx := true) h ho (by simpa using h1) hq (fun x hxm => hx x (by simp only [ho, Op.operands, Call.operands]; simp; exact .inr (by simpa using hxm)))
    · cases h
  | _ => simp [ho, pval] at h

end Go.Abs
