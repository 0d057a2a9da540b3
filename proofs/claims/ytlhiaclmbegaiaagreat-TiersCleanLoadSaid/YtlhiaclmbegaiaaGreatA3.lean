/- DERIVED. Own theory, part 3: the other operations that leave memory alone; all of them together. -/
import Derived.Test.YtlhiaclmbegaiaaGreatA2
import Derived.Laws.BytesString
set_option linter.unusedVariables false
set_option linter.unusedSimpArgs false
namespace Go.Abs

def xUn (P : Program) (op : UnOp) : AV → Option (Ob × AV)
  | .c (.d (.v u)) => (pureV P (Op.unary op u)).map fun r => (none, xv r)
  | _ => none
theorem xUn_sound {P : Program} {op : UnOp} {t : TypeId} {x : Operand} {av r : AV} {p : Ob} {ρ : Operand → Value} {τ S w}
    (h : xUn P op av = some (p, r)) (hx : RelA τ S w av (ρ x)) {o : Oper} (ho : o.op = .unOp op t x) : Ans P ρ o τ S w r := by
  unfold xUn at h
  split at h
  · rename_i u
    have hx' : ρ x = u := hx
    cases hq : pureV P (Op.unary op u) with
    | none => simp [hq] at h
    | some z =>
      simp only [hq, Option.map_some, Option.some.injEq, Prod.mk.injEq] at h
      obtain ⟨rfl, rfl⟩ := h
      exact ⟨z, by simp [execOp, ho, hx', pureV_run hq w], rfl⟩
  · cases h

/-- The bytes of read-only data. -/
def strOf (n : Nat) (f : Nat → Int) : ByteArray := ((List.range n).map f).foldl (fun r n => r.push (UInt8.ofNat n.toNat)) ByteArray.empty

def isBytes (P : Program) (src dst : Nat) : Bool :=
  match P.underlying src, P.underlying dst with
  | some (.slice e), some .string => match P.underlying e with | some (.int .u8) => true | _ => false
  | _, _ => false
def xConv (P : Program) (hp : List (Nat × Ct)) (src dst : Nat) : AV → Option (Ob × AV)
  | .c (.d (.v (.slice none 0 0))) => if isBytes P src dst then some (none, xs ByteArray.empty) else none
  | .c (.d (.v u)) => (pureV P (convert src dst u)).map fun r => (none, xv r)
  | .c (.d (.ro 1 n g)) => if isBytes P src dst then some (some (∃ f : Nat → Int, g = fun i _ => .v (.int .u8 (f i))), xs (strOf n fun i => match g i 0 with | .v (.int .u8 b) => b | _ => 0)) else none
  | .c (.nm id) => match lkH hp id with
    | some (.rows _ 1 n g) => if isBytes P src dst then some (some (∃ f : Nat → Int, g = fun i _ => .v (.int .u8 (f i))), xs (strOf n fun i => match g i 0 with | .v (.int .u8 b) => b | _ => 0)) else none
    | _ => none
  | _ => none

theorem run_conv_bytes {P : Program} {src dst : Nat} (h : isBytes P src dst = true) (a : Option Addr) (n c : Nat) (w : World) :
    (convert src dst (.slice a n c)).run P w = (Conv.bytesToString (.slice a n c)).run P w := by
  unfold isBytes at h
  split at h
  · rename_i e h1 h2
    split at h
    · rename_i h3
      simp [convert, run_underlying h1, run_underlying h2, run_underlying h3]
    · cases h
  · cases h

theorem bytes_run {P : Program} {w : World} {b o n c : Nat} {f : Nat → Int} (hcell : ∀ i, i < n → w.cell? ⟨b, o + i, none⟩ = some (.int .u8 (f i))) :
    (Conv.bytesToString (.slice (some ⟨b, o, none⟩) n c)).run P w = .ok (.string (strOf n f)) w := by
  have hl : (loadCells ⟨b, o, none⟩ n).run P w = .ok (((List.range n).map f).map (Value.int .u8)).toArray w := by
    have := run_loadCells_list (P := P) w ⟨b, o, none⟩ (((List.range n).map f).map (Value.int .u8)) (fun j v hv => by
      rw [Addr.add_mid]
      simp only [List.getElem?_map] at hv
      cases hr : (List.range n)[j]? with
      | none => simp [hr] at hv
      | some m =>
        obtain ⟨hjn, hm⟩ := List.getElem?_eq_some_iff.1 hr
        simp at hm hjn
        subst hm
        simp [hr] at hv
        subst hv
        exact hcell _ hjn)
    simpa using this
  have := run_bytesToString (P := P) w ⟨b, o, none⟩ n c ((List.range n).map f) (by simpa using hl)
  exact this

theorem xConv_sound {P : Program} {hp : List (Nat × Ct)} {src dst : TypeId} {x : Operand} {av r : AV} {p : Ob} {ρ : Operand → Value} {τ S w}
    (h : xConv P hp src dst av = some (p, r)) (hpp : ob p) (hH : HP τ S w hp) (hx : RelA τ S w av (ρ x)) {o : Oper} (ho : o.op = .convert src dst x) : Ans P ρ o τ S w r := by
  unfold xConv at h
  split at h
  · split at h
    · rename_i hb
      simp only [Option.some.injEq, Prod.mk.injEq] at h
      obtain ⟨rfl, rfl⟩ := h
      have hx' : ρ x = .slice none 0 0 := hx
      refine ⟨.string ByteArray.empty, ?_, rfl⟩
      simp [execOp, ho, hx', run_conv_bytes hb none 0 0 w, Conv.bytesToString]
    · cases h
  · rename_i u _
    have hx' : ρ x = u := hx
    cases hq : pureV P (convert src dst u) with
    | none => simp [hq] at h
    | some z =>
      simp only [hq, Option.map_some, Option.some.injEq, Prod.mk.injEq] at h
      obtain ⟨rfl, rfl⟩ := h
      exact ⟨z, by simp [execOp, ho, hx', pureV_run hq w], rfl⟩
  · rename_i n g
    split at h
    · rename_i hb
      simp only [Option.some.injEq, Prod.mk.injEq] at h
      obtain ⟨rfl, rfl⟩ := h
      obtain ⟨f, rfl⟩ := hpp
      obtain ⟨a, c, hv, hc, hcell⟩ := hx
      refine ⟨.string (strOf n f), ?_, rfl⟩
      rcases Nat.eq_zero_or_pos n with rfl | hn
      · cases a with
        | none => simp [execOp, ho, hv, run_conv_bytes hb none 0 c w, Conv.bytesToString]; rfl
        | some a =>
          obtain ⟨ab, ao, asp⟩ := a
          have := run_bytesToString (P := P) w ⟨ab, ao, asp⟩ 0 c [] (by simp [loadCells, loadCellsFrom])
          simp [execOp, ho, hv, run_conv_bytes hb _ 0 c w, this]; rfl
      · obtain ⟨b, o0, rfl, _, hcell⟩ := hcell hn
        have := bytes_run (P := P) (w := w) (b := b) (o := o0) (n := n) (c := c) (f := f) (fun i hi => by
          obtain ⟨u, h1, _, h3⟩ := hcell i hi 0 (by omega)
          have h3' : u = .int .u8 (f i) := h3
          subst h3'
          simpa using h1)
        simp [execOp, ho, hv, run_conv_bytes hb _ n c w, this]
    · cases h
  · rename_i id
    split at h
    · rename_i ety n g hl
      split at h
      · rename_i hb
        simp only [Option.some.injEq, Prod.mk.injEq] at h
        obtain ⟨rfl, rfl⟩ := h
        obtain ⟨f, rfl⟩ := hpp
        obtain ⟨xs, hown, hcell⟩ := hH.rows hl
        have hv : ρ x = τ id := hx
        refine ⟨.string (strOf n f), ?_, rfl⟩
        rcases hown.2 with ⟨hnil, hn0⟩ | ⟨b, cap, cur, fz, hb', hg, _⟩
        · subst hn0
          simp [execOp, ho, hv, hnil, run_conv_bytes hb none 0 0 w, Conv.bytesToString]; rfl
        · have := bytes_run (P := P) (w := w) (b := b) (o := 0) (n := n) (c := cap) (f := f) (fun i hi => by
            obtain ⟨u, h1, _, h3⟩ := hcell i hi 0 (by omega)
            have h3' : u = .int .u8 (f i) := h3
            subst h3'
            have := owns_cell hown (by rw [hb']; rfl) (k := i) (by simpa using h1)
            simpa using this)
          simp [execOp, ho, hv, hb', run_conv_bytes hb _ n cap w, this]
      · cases h
    · cases h
  · cases h

def xExtract (k : Nat) : AV → Option (Ob × AV)
  | .tup l => if k < l.length then some (none, l.getD k .dead) else none
  | _ => none
theorem RelT.at_ {τ S w} : ∀ {cs : List AV} {us : List Value}, RelT τ S w cs us → ∀ j, j < cs.length → ∃ u, us[j]? = some u ∧ RelB τ S w (cs.getD j .dead) u
  | [], [], _, j, hj => by simp at hj
  | [], _ :: _, h, _, _ => h.elim
  | _ :: _, [], h, _, _ => h.elim
  | c :: cs, u :: us, ⟨h2, h3⟩, j, hj => by
    cases j with
    | zero => exact ⟨u, by simp, by simpa using h2⟩
    | succ j =>
      obtain ⟨v, hv1, hv3⟩ := RelT.at_ h3 j (by simpa using hj)
      exact ⟨v, by simpa using hv1, by simpa using hv3⟩
theorem xExtract_sound {P : Program} {k : Nat} {x : Operand} {av r : AV} {p : Ob} {ρ : Operand → Value} {τ S w}
    (h : xExtract k av = some (p, r)) (hx : RelA τ S w av (ρ x)) {o : Oper} (ho : o.op = .extract x k) : Ans P ρ o τ S w r := by
  unfold xExtract at h
  split at h
  · split at h
    · rename_i l hk
      simp only [Option.some.injEq, Prod.mk.injEq] at h
      obtain ⟨rfl, rfl⟩ := h
      obtain ⟨us, hy, hr⟩ := hx
      obtain ⟨u, hu, hr⟩ := hr.at_ k hk
      exact ⟨u, by simp [execOp, ho, hy, Instr.extract, hu], hr.a⟩
    · cases h
  · cases h

def xIndex (P : Program) (t : Nat) : AV → AV → Option (Ob × AV)
  | .c (.d (.v (.string s))), .c (.d (.v (.int _ i))) =>
    match P.underlying t with
    | some .string => some (some (0 ≤ i ∧ i < (s.size : Int)), xv (.int .u8 (bt s i)))
    | _ => none
  | _, _ => none
theorem xIndex_sound {P : Program} {t : Nat} {x ix : Operand} {av bv r : AV} {p : Ob} {ρ : Operand → Value} {τ S w}
    (h : xIndex P t av bv = some (p, r)) (hpp : ob p) (hx : RelA τ S w av (ρ x)) (hy : RelA τ S w bv (ρ ix)) {o : Oper} (ho : o.op = .index t x ix) : Ans P ρ o τ S w r := by
  unfold xIndex at h
  split at h
  · rename_i s k i
    split at h
    · rename_i hu
      simp only [Option.some.injEq, Prod.mk.injEq] at h
      obtain ⟨rfl, rfl⟩ := h
      obtain ⟨h0, h1⟩ := hpp
      have hx' : ρ x = .string s := hx
      have hy' : ρ ix = .int k i := hy
      have hlt : i.toNat < s.size := by omega
      refine ⟨_, ?_, rfl⟩
      have : s[i.toNat]? = some s[i.toNat] := by simp [hlt]
      have hb : bt s i = (s[i.toNat].toNat : Int) := by
        have hlt' : i.toNat < s.data.toList.length := by simpa using hlt
        simp only [bt, List.getD_eq_getElem?_getD, List.getElem?_eq_getElem hlt', Option.getD_some]
        rfl
      simp [execOp, ho, hx', hy', Instr.index, asIntOf, run_underlying hu, h0, this, hb]
    · cases h
  · cases h

def boundI (d : Int) : Option AV → Option Int
  | none => some d
  | some (.c (.d (.v (.int _ i)))) => some i
  | _ => none
/-- x[lo:hi] -/
def xSlice (P : Program) (t : Nat) (lo hi : Option AV) : AV → Option (Ob × AV)
  | .c (.d (.v (.string s))) =>
    match P.underlying t, boundI 0 lo, boundI s.size hi with
    | some .string, some l, some h => some (some (0 ≤ l ∧ l ≤ h ∧ h ≤ (s.size : Int)), xs (s.extract l.toNat h.toNat))
    | _, _, _ => none
  | .c (.d (.ro sz n g)) =>
    match boundI 0 lo, boundI n hi with
    | some l, some h => if elemOfS P t = some sz then some (some (0 ≤ l ∧ l ≤ h ∧ h ≤ (n : Int)), .c (.d (.ro sz (h.toNat - l.toNat) fun i => g (l.toNat + i)))) else none
    | _, _ => none
  | _ => none

def BV (τ : Nat → Value) (S : Nat → Prop) (w : World) : Option AV → Option Value → Prop
  | none, none => True
  | some a, some v => RelA τ S w a v
  | _, _ => False

theorem sliceBounds_run {P : Program} {isS : Bool} {len cap : Nat} {lo hi : Option AV} {vl vh : Option Value} {τ S w} {l h : Int}
    (hl : boundI 0 lo = some l) (hh : boundI len hi = some h) (rl : BV τ S w lo vl) (rh : BV τ S w hi vh) (h0 : 0 ≤ l) (h1 : l ≤ h) (h2 : h ≤ (len : Int)) (hc : len ≤ cap) :
    (Instr.sliceBounds isS len cap vl vh none).run P w = .ok (l.toNat, h.toNat, cap) w := by
  have e1 : vl = none ∧ l = 0 ∨ ∃ k, vl = some (.int k l) := by
    cases lo with
    | none => cases vl with
      | none => simp [boundI] at hl; exact .inl ⟨rfl, hl.symm⟩
      | some v => exact rl.elim
    | some a =>
      unfold boundI at hl
      split at hl
      · cases ‹some a = none›
      · rename_i k i he
        simp only [Option.some.injEq] at hl he
        subst hl he
        cases vl with
        | none => exact rl.elim
        | some v => exact .inr ⟨k, by rw [show v = _ from rl]⟩
      · cases hl
  have e2 : vh = none ∧ h = len ∨ ∃ k, vh = some (.int k h) := by
    cases hi with
    | none => cases vh with
      | none => simp [boundI] at hh; exact .inl ⟨rfl, hh.symm⟩
      | some v => exact rh.elim
    | some a =>
      unfold boundI at hh
      split at hh
      · cases ‹some a = none›
      · rename_i k i he
        simp only [Option.some.injEq] at hh he
        subst hh he
        cases vh with
        | none => exact rh.elim
        | some v => exact .inr ⟨k, by rw [show v = _ from rh]⟩
      · cases hh
  have eh : (h.toNat : Int) = h := Int.toNat_of_nonneg (by omega)
  have hcap : h ≤ (cap : Int) := by omega
  have hh0 : 0 ≤ h := by omega
  rcases e1 with ⟨rfl, rfl⟩ | ⟨k, rfl⟩ <;> rcases e2 with ⟨rfl, rfl⟩ | ⟨k', rfl⟩ <;>
    simp [Instr.sliceBounds, run_sliceBound, eh, h0, h1, hcap, hh0]

theorem xSlice_sound {P : Program} {t : Nat} {x : Operand} {lo hi : Option Operand} {av r : AV} {p : Ob} {ρA : Operand → AV} {ρ : Operand → Value} {τ S w}
    (h : xSlice P t (lo.map ρA) (hi.map ρA) av = some (p, r)) (hpp : ob p) (hx : RelA τ S w av (ρ x)) (hl : ∀ y, lo = some y → RelA τ S w (ρA y) (ρ y)) (hh : ∀ y, hi = some y → RelA τ S w (ρA y) (ρ y))
    {o : Oper} (ho : o.op = .slice t x lo hi none) : Ans P ρ o τ S w r := by
  have bl : BV τ S w (lo.map ρA) (lo.map ρ) := by cases lo with | none => trivial | some y => exact hl y rfl
  have bh : BV τ S w (hi.map ρA) (hi.map ρ) := by cases hi with | none => trivial | some y => exact hh y rfl
  unfold xSlice at h
  split at h
  · rename_i s
    split at h
    · rename_i l hi' hu e1 e2
      simp only [Option.some.injEq, Prod.mk.injEq] at h
      obtain ⟨rfl, rfl⟩ := h
      obtain ⟨h0, h1, h2⟩ := hpp
      have hx' : ρ x = .string s := hx
      refine ⟨_, ?_, rfl⟩
      have hb := sliceBounds_run (P := P) (isS := false) (cap := s.size) e1 e2 bl bh h0 h1 h2 (Nat.le_refl _)
      simp [execOp, ho, hx', Instr.sliceAt, Instr.slice, run_underlying hu, hb]
    · cases h
  · rename_i sz n g
    split at h
    · rename_i l hi' e1 e2
      split at h
      · rename_i he
        simp only [Option.some.injEq, Prod.mk.injEq] at h
        obtain ⟨rfl, rfl⟩ := h
        obtain ⟨h0, h1, h2⟩ := hpp
        obtain ⟨a, c, hv, hc, hcell⟩ := hx
        have hb := sliceBounds_run (P := P) (isS := true) (cap := c) e1 e2 bl bh h0 h1 h2 hc
        have he' := he
        unfold elemOfS at he'
        split at he'
        · rename_i e hu
          cases hie : P.info? e with
          | none => simp [hie] at he'
          | some ie =>
            simp [hie] at he'
            refine ⟨.slice (if c = l.toNat then a else a.map (·.add (l.toNat * sz))) (hi'.toNat - l.toNat) (c - l.toNat), ?_, _, _, rfl, by omega, fun hpos => ?_⟩
            · simp [execOp, ho, hv, Instr.sliceAt, Instr.slice, run_underlying hu, hb, sizeOf, typeInfo, hie, he']
            · obtain ⟨b, o0, rfl, hb', hcell⟩ := hcell (by omega)
              refine ⟨b, o0 + l.toNat * sz, by rw [if_neg (by omega)]; simp [Addr.add_lit], hb', fun i hi j hj => ?_⟩
              obtain ⟨u, h1, h2, h3⟩ := hcell (l.toNat + i) (by omega) j hj
              refine ⟨u, ?_, h2, h3⟩
              rw [show o0 + l.toNat * sz + (i * sz + j) = o0 + ((l.toNat + i) * sz + j) from by rw [Nat.add_mul]; omega]
              exact h1
        · cases he'
      · cases h
    · cases h
  · cases h

/-! ### len, min, max -/
def xLen (P : Program) (hp : List (Nat × Ct)) (t : Nat) : AV → Option (Ob × AV)
  | .c (.d (.v (.string s))) => match P.underlying t with | some .string => some (none, xi s.size) | _ => none
  | .c (.d (.v (.slice none 0 0))) => match P.underlying t with | some (.slice _) => some (none, xi 0) | _ => none
  | .c (.d (.ro _ n _)) => match P.underlying t with | some (.slice _) => some (none, xi n) | _ => none
  | .c (.nm id) => match P.underlying t, lkH hp id with | some (.slice _), some (.rows _ _ n _) => some (none, xi n) | _, _ => none
  | .c (.ns _ _ _ n) => match P.underlying t with | some (.slice _) => some (none, xi n) | _ => none
  | _ => none
theorem run_len_S {P : Program} {t e : Nat} (h : P.underlying t = some (.slice e)) (ty : Nat) (a : Option Addr) (n c : Nat) (w : World) :
    (Builtin.len_ #[t] ty #[.slice a n c]).run P w = .ok (goInt n) w := by simp [Builtin.len_, run_underlying h]
theorem xLen_sound {P : Program} {hp : List (Nat × Ct)} {t : TypeId} {x : Operand} {av r : AV} {p : Ob} {ρ : Operand → Value} {τ S w}
    (h : xLen P hp t av = some (p, r)) (hH : HP τ S w hp) (hx : RelA τ S w av (ρ x)) {o : Oper} {c : Call} (ho : o.op = .call c) (hc : c.callee = .builtin .len) (ha : c.args = #[x]) (ht : c.argTypes = #[t]) : Ans P ρ o τ S w r := by
  have key : ∀ y z, ρ x = z → (Builtin.len_ #[t] o.type #[z]).run P w = .ok y w → (execOp ρ o).run P w = .ok (.value y) w := by
    intro y z hz hr
    simp [execOp, ho, resolve, hc, ha, ht, invoke, builtin, hz, hr]
  unfold xLen at h
  split at h
  · rename_i s
    split at h
    · rename_i hu
      simp only [Option.some.injEq, Prod.mk.injEq] at h
      obtain ⟨rfl, rfl⟩ := h
      exact ⟨_, key _ _ (show ρ x = .string s from hx) (by simp [Builtin.len_, run_underlying hu]; rfl), rfl⟩
    · cases h
  · split at h
    · rename_i e hu
      simp only [Option.some.injEq, Prod.mk.injEq] at h
      obtain ⟨rfl, rfl⟩ := h
      exact ⟨_, key _ _ (show ρ x = .slice none 0 0 from hx) (run_len_S hu o.type none 0 0 w), rfl⟩
    · cases h
  · rename_i sz n g
    split at h
    · rename_i e hu
      simp only [Option.some.injEq, Prod.mk.injEq] at h
      obtain ⟨rfl, rfl⟩ := h
      obtain ⟨a, c', hv, _, _⟩ := hx
      exact ⟨_, key _ _ hv (run_len_S hu o.type a n c' w), rfl⟩
    · cases h
  · rename_i id
    split at h
    · rename_i e ety sz n g hu hl
      simp only [Option.some.injEq, Prod.mk.injEq] at h
      obtain ⟨rfl, rfl⟩ := h
      obtain ⟨xs, hown, _⟩ := hH.rows hl
      rcases hown.2 with ⟨hnil, hn0⟩ | ⟨b, cap, cur, fz, hb', hg, _⟩
      · subst hn0
        exact ⟨_, key _ _ ((show ρ x = τ id from hx).trans hnil) (run_len_S hu o.type none 0 0 w), rfl⟩
      · exact ⟨_, key _ _ ((show ρ x = τ id from hx).trans hb') (run_len_S hu o.type _ n cap w), rfl⟩
    · cases h
  · rename_i id sz i n
    split at h
    · rename_i e hu
      simp only [Option.some.injEq, Prod.mk.injEq] at h
      obtain ⟨rfl, rfl⟩ := h
      obtain ⟨a, c', hv, _⟩ := hx
      exact ⟨_, key _ _ hv (run_len_S hu o.type a n c' w), rfl⟩
    · cases h
  · cases h

def exactL : List AV → Option (List Value)
  | [] => some []
  | .c (.d (.v x)) :: r => (exactL r).map (x :: ·)
  | _ :: _ => none
theorem exactL_rel {τ S w} {ρA : Operand → AV} {ρ : Operand → Value} : ∀ {l : List Operand} {vs : List Value}, (∀ x ∈ l, RelA τ S w (ρA x) (ρ x)) → exactL (l.map ρA) = some vs → l.map ρ = vs
  | [], vs, _, h => by simp [exactL] at h; subst h; rfl
  | x :: l, vs, hr, h => by
    simp only [List.map_cons] at h
    unfold exactL at h
    split at h
    · cases ‹_ :: _ = []›
    · rename_i y r he
      simp only [List.cons.injEq] at he
      obtain ⟨h1, rfl⟩ := he
      cases hq : exactL (l.map ρA) with
      | none => simp [hq] at h
      | some us =>
        simp only [hq, Option.map_some, Option.some.injEq] at h
        subst h
        have := hr x (by simp)
        rw [h1] at this
        simp [exactL_rel (fun y hy => hr y (List.mem_cons_of_mem _ hy)) hq, show ρ x = y from this]
    · cases h
def xMM (P : Program) (mx : Bool) (vs : List Value) : Option (Ob × AV) :=
  (pureV P (if mx then Builtin.max_ #[] 0 vs.toArray else Builtin.min_ #[] 0 vs.toArray)).map fun r => (none, xv r)
theorem xMM_sound {P : Program} {mx : Bool} {r : AV} {p : Ob} {ρA : Operand → AV} {ρ : Operand → Value} {τ S w} {vs : List Value} {o : Oper} {c : Call}
    (h : xMM P mx vs = some (p, r)) (ho : o.op = .call c) (hc : c.callee = .builtin (if mx then .max else .min)) (hv : exactL (c.args.toList.map ρA) = some vs) (hr : ∀ x ∈ c.args.toList, RelA τ S w (ρA x) (ρ x)) : Ans P ρ o τ S w r := by
  have e := exactL_rel hr hv
  have ea : c.args.map ρ = vs.toArray := by
    apply Array.ext'
    simpa using e
  unfold xMM at h
  cases hq : pureV P (if mx then Builtin.max_ #[] 0 vs.toArray else Builtin.min_ #[] 0 vs.toArray) with
  | none => simp [hq] at h
  | some z =>
    simp only [hq, Option.map_some, Option.some.injEq, Prod.mk.injEq] at h
    obtain ⟨rfl, rfl⟩ := h
    refine ⟨z, ?_, rfl⟩
    cases mx with
    | true => simp only [if_true] at hq hc; simp [execOp, ho, resolve, hc, invoke, builtin, ea, Builtin.max_] ; have := pureV_run hq w; simp [Builtin.max_] at this; simp [this]
    | false => simp only [Bool.false_eq_true, if_false] at hq hc; simp [execOp, ho, resolve, hc, invoke, builtin, ea, Builtin.min_] ; have := pureV_run hq w; simp [Builtin.min_] at this; simp [this]

end Go.Abs
