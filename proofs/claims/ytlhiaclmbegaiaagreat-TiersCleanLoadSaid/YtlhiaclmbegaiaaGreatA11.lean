/- DERIVED. Own theory, part 11: make, stores into rows, strings' bytes, rows lent to a call. -/
import Derived.Test.YtlhiaclmbegaiaaGreatA10
set_option linter.unusedVariables false
set_option linter.unusedSimpArgs false
namespace Go.Abs

/-! ### make -/
def zDV (P : Program) (ety sz : Nat) : Option (List DV) :=
  match P.info? ety with
  | some i => match i.zero with
    | some z => if i.size = sz ∧ z.cells.size = sz ∧ 0 < sz ∧ z.cells.all (·.oneCell') then some ((List.range sz).map fun j => .v (z.cells.getD j undef)) else none
    | none => none
  | none => none
def makeChk (P : Program) (t ety B : Nat) : Bool :=
  match P.underlying t, P.info? ety with
  | some (.slice e), some i => decide (e = ety) && (decide (i.bytes = B) && decide (0 < B))
  | _, _ => false
theorem WO.make {P : Program} {N : Nat} {ops : Array Oper} {i : Nat} {l : List Nat} {st : ASt} {Q : Exit → ASt → Prop} {o : Oper} {x : Operand} {t ety sz B : Nat} {α : Type} [Inhabited α] (f : α → Nat → DV) (z0 : α) {n : Int} (id : Nat)
    (ho : ops[i]? = some o) (hop : o.op = .makeSlice t x x) (hgd : o.guard = none) (hx : opA st.fr x = xi n) (hz : zDV P ety sz = some ((List.range sz).map (f z0)))
    (hchk : (makeChk P t ety B && (decide (newId ≤ id) && (frFresh id st.fr && (hpFresh id st.hp && dstOk N o.dst)))) = true) (hn : 0 ≤ n) (hb : n * B ≤ 140737488355328)
    (k : WO P N ops l ⟨putF st.fr o.dst (.c (.nm id)), (id, .rows ety sz (List.replicate n.toNat z0).length (gT f (List.replicate n.toNat z0))) :: st.hp⟩ Q) : WO P N ops (i :: l) st Q := by
  simp only [Bool.and_eq_true, decide_eq_true_eq] at hchk
  obtain ⟨ha, hid, hf, hf', hd⟩ := hchk
  unfold makeChk at ha
  unfold zDV at hz
  split at ha
  case h_2 => cases ha
  rename_i e ii hut hie
  simp only [Bool.and_eq_true, decide_eq_true_eq] at ha
  obtain ⟨rfl, rfl, hB0⟩ := ha
  rw [hie] at hz
  simp only at hz
  cases hzz : ii.zero with
  | none => simp [hzz] at hz
  | some z =>
    simp only [hzz] at hz
    split at hz
    case isFalse => cases hz
    rename_i hc
    obtain ⟨rfl, hzs, hsz0, hone⟩ := hc
    simp only [Option.some.injEq] at hz
    intro E τ S a w hE h
    have hw : Region.wanted o (yielded ops a.tmps) = true := by simp [Region.wanted, hgd]
    have hy : a.eval x = .int .i64 n := by have := h.opA x; rw [hx] at this; exact this
    have hnB : n.toNat * ii.bytes ≤ 140737488355328 := by
      have : ((n.toNat * ii.bytes : Nat) : Int) = n * ii.bytes := by rw [Int.natCast_mul, Int.toNat_of_nonneg hn]
      omega
    have hn47 : n.toNat ≤ 140737488355328 := by
      have : n.toNat * 1 ≤ n.toNat * ii.bytes := Nat.mul_le_mul_left _ hB0
      omega
    have hwrap : IntKind.i64.wrap n = n := by simp only [IntKind.wrap]; simp [IntKind.bits, IntKind.signed]; omega
    let cs := (Array.range (n.toNat * ii.size)).map (z.cells[· % z.cells.size]!)
    have hrun : (Instr.makeSlice t (.int .i64 n) (.int .i64 n)).run P w = .ok (.slice (some ⟨w.heap.size, 0, none⟩) n.toNat n.toNat) (w.alloc (.cells cs e)) := by
      have h1 : ¬ (n < 0) := by omega
      have h2 : ¬ (281474976710656 < (ii.bytes : Int) * n) := by rw [Int.mul_comm]; omega
      simp only [Instr.makeSlice, Sem.run_bind, run_underlying hut, Result.andThen_ok, asInt, asIntOf, Sem.run_pure, typeInfo, run_program, hie, hwrap]
      simp [h1, h2, sizeOf, typeInfo, hie, zeroValue, hzz, newRow, cs]
      intro h0
      have : n.toNat * ii.size = 0 := by rw [h0]
      have hr0 : Array.range 0 = #[] := rfl
      simp [this, hr0]
    have hrep := rep_rel (τ := τ) (S := S) (w := w) (n.toNat * ii.size) hone (by omega : 0 < z.cells.size)
    have hct : RelCt (upd τ id (.slice (some ⟨w.heap.size, 0, none⟩) n.toNat n.toNat)) S (w.alloc (.cells cs e)) (.slice (some ⟨w.heap.size, 0, none⟩) n.toNat n.toNat)
        (.rows e ii.size (List.replicate n.toNat z0).length (gT f (List.replicate n.toNat z0))) := by
      rw [List.length_replicate]
      refine ⟨cs.toList, ⟨by simp [cs], .inr ⟨w.heap.size, n.toNat, cs, (0, 0), rfl, heap_alloc_new w _, .inl rfl, Nat.le_refl _, by simp only [maxLen]; omega, by simp [cs], by rw [List.take_of_length_le]; simp [cs]⟩⟩, fun i hi j hj => ?_⟩
      have hlt : i * ii.size + j < n.toNat * ii.size := by
        have : (i + 1) * ii.size ≤ n.toNat * ii.size := Nat.mul_le_mul_right _ hi
        rw [Nat.add_mul, Nat.one_mul] at this
        omega
      obtain ⟨u, hu1, hu2, hu3⟩ := hrep.at_.2 (i * ii.size + j) (by simp [repC]; exact hlt)
      refine ⟨u, hu1, hu2, ?_⟩
      have e1 : (repC z (n.toNat * ii.size)).getD (i * ii.size + j) (.d (.v undef)) = .d (.v (z.cells.getD j undef)) := by
        simp only [repC, List.getD_eq_getElem?_getD, List.getElem?_map, List.getElem?_range hlt, Option.map_some, Option.getD_some, hzs]
        rw [Nat.mul_comm, Nat.mul_add_mod, Nat.mod_eq_of_lt hj]
      rw [e1] at hu3
      have e2 : gT f (List.replicate n.toNat z0) i j = .v (z.cells.getD j undef) := by
        have := cells_eq hz j hj
        simp only [gT, List.getD_eq_getElem?_getD, List.getElem?_replicate, hi, if_true, Option.getD_some]
        exact this.symm
      rw [e2]
      exact hu3
    refine wpOps_do ho hw (y := .slice (some ⟨w.heap.size, 0, none⟩) n.toNat n.toNat) (w' := w.alloc (.cells cs e)) ?_ ?_
    · simp [execOp, hop, hy, hrun]
    · have hc := h.fresh hid hf hf' (World.grownBy_alloc w (.cells cs e) none) (v := .slice (some ⟨w.heap.size, 0, none⟩) n.toNat n.toNat) (fun b hb => by simp [Value.ownBlock] at hb; omega) hct
      exact k E _ S _ _ hE (hc.put (hE ▸ dst_lt hd) (show _ = upd τ id _ id by simp [upd]))

/-! ### A store into a row -/
theorem gT_set {α : Type} [Inhabited α] {f : α → Nat → DV} {L : List α} {i : Nat} {y : α} {sz j : Nat} {ds : List DV} (hi : i < L.length)
    (h : (List.range sz).map (f y) = (List.range sz).map fun j' => if j ≤ j' ∧ j' < j + ds.length then ds.getD (j' - j) (.v undef) else f (L.getD i default) j') :
    ∀ i', i' < L.length → ∀ j', j' < sz → gT f (L.set i y) i' j' = if i' = i ∧ j ≤ j' ∧ j' < j + ds.length then ds.getD (j' - j) (.v undef) else gT f L i' j' := by
  intro i' hi' j' hj'
  by_cases e : i' = i
  · subst e
    simp only [gT, List.getD_eq_getElem?_getD, List.getElem?_set_self hi, Option.getD_some, true_and]
    have := cells_eq h j' hj'
    rw [this]
    simp [List.getD_eq_getElem?_getD]
  · simp only [gT, List.getD_eq_getElem?_getD, List.getElem?_set_ne (Ne.symm e), e, false_and, if_false]

theorem setMany_at {α : Type} (l : List α) (off : Nat) (vs : List α) (h : off + vs.length ≤ l.length) (k : Nat) :
    (setMany l off vs)[k]? = if off ≤ k ∧ k < off + vs.length then vs[k - off]? else l[k]? := by
  unfold setMany
  by_cases h1 : k < off
  · rw [List.append_assoc, List.getElem?_append_left (by simp; omega), List.getElem?_take_of_lt h1, if_neg (by omega)]
  · by_cases h2 : k < off + vs.length
    · rw [List.getElem?_append_left (by simp; omega), List.getElem?_append_right (by simp; omega), if_pos (by omega)]
      simp
      congr 1
      omega
    · rw [List.getElem?_append_right (by simp; omega), List.getElem?_drop, if_neg (by omega)]
      congr 1
      simp
      omega

theorem WO.storeR {P : Program} {N : Nat} {ops : Array Oper} {i : Nat} {l : List Nat} {st : ASt} {Q : Exit → ASt → Prop} {o : Oper} {x y : Operand} {t ety sz k0 j id : Nat} {α : Type} [Inhabited α] {f : α → Nat → DV} {L : List α} (nv : α) {vs : List C} {ds : List DV}
    (ho : ops[i]? = some o) (hop : o.op = .store t x y) (hgd : o.guard = none) (hx : opA st.fr x = .c (.np id sz k0 j)) (hl : lkH st.hp id = some (.rows ety sz L.length (gT f L)))
    (hv : avCells st.hp (opA st.fr y) = some vs) (hds : dataOf vs = some ds) (hk0 : k0 < L.length) (hchk : (decide ((P.info? t).map (·.size) = some ds.length) && (decide (j + ds.length ≤ sz) && dstOk N o.dst)) = true)
    (hnv : (List.range sz).map (f nv) = (List.range sz).map fun j' => if j ≤ j' ∧ j' < j + ds.length then ds.getD (j' - j) (.v undef) else f (L.getD k0 default) j')
    (k : WO P N ops l ⟨putF st.fr o.dst .dead, setHp st.hp id (.rows ety sz (L.set k0 nv).length (gT f (L.set k0 nv)))⟩ Q) : WO P N ops (i :: l) st Q := by
  simp only [Bool.and_eq_true, decide_eq_true_eq] at hchk
  obtain ⟨hsz, hj, hd⟩ := hchk
  intro E τ S a w hE h
  have hw : Region.wanted o (yielded ops a.tmps) = true := by simp [Region.wanted, hgd]
  have hrx := h.opA x
  rw [hx] at hrx
  obtain ⟨b, hb, hy⟩ := hrx
  obtain ⟨xs, hown, hc⟩ := h.hp.rows hl
  have hrel := avCells_rel h.hp hv (h.opA y)
  have hlen := hrel.len
  obtain ⟨hdl, hdat⟩ := dataOf_rel hds hrel
  have hdv : vs.length = ds.length := by rw [hlen, hdl]
  obtain ⟨g, cap, cur, fz, hτ, hg, hfz, hnc, hcm, hcs, htake⟩ := hown.own (by omega)
  have hbg : g = b := by rw [hτ] at hb; simpa [Value.ownBlock] using hb
  subst hbg
  have hlt : k0 * sz + j + ds.length ≤ L.length * sz := by
    have : (k0 + 1) * sz ≤ L.length * sz := Nat.mul_le_mul_right _ hk0
    rw [Nat.add_mul, Nat.one_mul] at this
    omega
  have hcap : L.length * sz ≤ cap * sz := Nat.mul_le_mul_right _ hnc
  have hycl : (a.eval y).cells.toList.length = ds.length := by omega
  have hszv : (P.info? t).map (·.size) = some (a.eval y).cells.size := by
    rw [hsz, ← hycl, Array.length_toList]
  obtain ⟨w', hrun, hgr, _, hheap⟩ := storeVar_run (P := P) (b := g) (o := k0 * sz + j) (t := t) (y := a.eval y) hg hfz hszv (by simp only [Array.length_toList] at hycl; omega) (fun v hv => hrel.ones v hv)
  refine wpOps_doSkip ho hw (w' := w') ?_ ?_
  · simp [execOp, hop, hy, Instr.storeAt, Instr.sureAddr, hrun]
  · have hnS : ∀ b', some g = some b' → ¬ S b' := fun b' hb' hS => by cases hb'; exact h.hp.ss _ hS _ (lkH_mem hl) (by rw [hτ]; rfl)
    have hst : Stays τ τ S S w w' := stays_of hgr (fun _ h => h) h.hp.s hnS
    have hcurlen : (k0 * sz + j) + (a.eval y).cells.toList.length ≤ cur.toList.length := by simp only [Array.length_toList] at hycl ⊢; omega
    have hsz2 : (setMany cur.toList (k0 * sz + j) (a.eval y).cells.toList).toArray.size = cur.size := by
      have h1 : (a.eval y).cells.toList.length = ds.length := hycl
      simp only [setMany, List.size_toArray, List.length_append, List.length_take, List.length_drop, Array.length_toList] at *
      omega
    have hct : RelCt τ S w' (τ id) (.rows ety sz (L.set k0 nv).length (gT f (L.set k0 nv))) := by
      rw [List.length_set]
      refine ⟨(setMany cur.toList (k0 * sz + j) (a.eval y).cells.toList).take (L.length * sz), ⟨?_, .inr ⟨g, cap, _, fz, hτ, hheap, by rw [hsz2]; exact hfz, hnc, hcm, by rw [hsz2]; exact hcs, rfl⟩⟩, fun i' hi' j' hj' => ?_⟩
      · rw [List.length_take]
        have : (setMany cur.toList (k0 * sz + j) (a.eval y).cells.toList).length = cur.size := by simpa using hsz2
        omega
      · have hlt' : i' * sz + j' < L.length * sz := by
          have : (i' + 1) * sz ≤ L.length * sz := Nat.mul_le_mul_right _ hi'
          rw [Nat.add_mul, Nat.one_mul] at this
          omega
        rw [List.getElem?_take_of_lt hlt', setMany_at _ _ _ hcurlen, gT_set hk0 hnv i' hi' j' hj']
        have hiff : (k0 * sz + j ≤ i' * sz + j' ∧ i' * sz + j' < k0 * sz + j + (a.eval y).cells.toList.length) ↔ (i' = k0 ∧ j ≤ j' ∧ j' < j + ds.length) := by
          rw [hycl]
          constructor
          · rintro ⟨h1, h2⟩
            have : i' = k0 := by
              rcases Nat.lt_trichotomy i' k0 with hh | hh | hh
              · have : (i' + 1) * sz ≤ k0 * sz := Nat.mul_le_mul_right _ hh
                rw [Nat.add_mul, Nat.one_mul] at this
                omega
              · exact hh
              · have : (k0 + 1) * sz ≤ i' * sz := Nat.mul_le_mul_right _ hh
                rw [Nat.add_mul, Nat.one_mul] at this
                omega
            subst this
            exact ⟨rfl, by omega, by omega⟩
          · rintro ⟨rfl, h1, h2⟩
            omega
        by_cases hcnd : i' = k0 ∧ j ≤ j' ∧ j' < j + ds.length
        · rw [if_pos (hiff.2 hcnd), if_pos hcnd]
          obtain ⟨rfl, h1, h2⟩ := hcnd
          obtain ⟨u, hu1, hu2, hu3⟩ := hdat (j' - j) (by omega)
          exact ⟨u, by rw [show i' * sz + j' - (i' * sz + j) = j' - j from by omega]; exact hu1, hu2, RelD.mono (fun _ h => h) hst.h _ _ hu3⟩
        · rw [if_neg (fun hh => hcnd (hiff.1 hh)), if_neg hcnd]
          obtain ⟨u, hu1, hu2, hu3⟩ := hc i' hi' j' hj'
          refine ⟨u, ?_, hu2, RelD.mono (fun _ h => h) hst.h _ _ hu3⟩
          rw [← htake, List.getElem?_take_of_lt hlt'] at hu1
          exact hu1
    exact k E τ S _ w' hE ((h.write hl (by rw [hτ]; rfl) hgr hct).put (hE ▸ dst_lt hd) trivial)

/-! ### []byte(s) -/
def strL (s : ByteArray) : List Int := s.data.toList.map fun b => (b.toNat : Int)
abbrev fU8 : Int → Nat → DV := fInt .u8
def isBytesTo (P : Program) (src dst ety : Nat) : Bool :=
  match P.underlying src, P.underlying dst, P.underlying ety, P.info? ety with
  | some .string, some (.slice e), some (.int .u8), some i => decide (e = ety) && decide (i.size = 1)
  | _, _, _, _ => false
theorem WO.bytes {P : Program} {N : Nat} {ops : Array Oper} {i : Nat} {l : List Nat} {st : ASt} {Q : Exit → ASt → Prop} {o : Oper} {x : Operand} {src dst ety : Nat} {s : ByteArray} (id : Nat)
    (ho : ops[i]? = some o) (hop : o.op = .convert src dst x) (hgd : o.guard = none) (hx : opA st.fr x = xs s)
    (hchk : (isBytesTo P src dst ety && (decide (newId ≤ id) && (frFresh id st.fr && (hpFresh id st.hp && dstOk N o.dst)))) = true) (hb : s.size ≤ 140737488355328)
    (k : WO P N ops l ⟨putF st.fr o.dst (.c (.nm id)), (id, .rows ety 1 (strL s).length (gT fU8 (strL s))) :: st.hp⟩ Q) : WO P N ops (i :: l) st Q := by
  simp only [Bool.and_eq_true, decide_eq_true_eq] at hchk
  obtain ⟨ha, hid, hf, hf', hd⟩ := hchk
  unfold isBytesTo at ha
  split at ha
  case h_2 => cases ha
  rename_i e ii h1 h2 h3 h4
  simp only [Bool.and_eq_true, decide_eq_true_eq] at ha
  obtain ⟨rfl, hsz⟩ := ha
  intro E τ S a w hE h
  have hw : Region.wanted o (yielded ops a.tmps) = true := by simp [Region.wanted, hgd]
  have hy : a.eval x = .string s := by have := h.opA x; rw [hx] at this; exact this
  let cap := grownCap w s.size 0 e
  have hge : s.size ≤ cap := grownCap_ge w s.size 0 e
  have hcm : cap ≤ maxLen := grownCap_le_maxLen w s.size 0 e (by simp only [maxLen]; omega)
  let cs : Array Value := s.data.map (fun b => .int .u8 b.toNat) ++ Array.replicate (cap - s.size) (.int .u8 0)
  have hcs : cs.size = cap := by
    have : s.data.size = s.size := rfl
    simp [cs]; omega
  let w' : World := (w.drew.alloc (.cells cs e)).freeze ⟨w.heap.size, cs.size, none⟩ 1
  have hnew : w'.heap[w.heap.size]? = some (.cells cs e (cs.size, cs.size + 1)) := by
    have hb : (w.drew.alloc (.cells cs e)).heap[w.heap.size]? = some (.cells cs e (0, 0)) := heap_alloc_new w.drew _
    simp only [w', World.freeze, if_neg (by decide : ¬ (1 = 0))]
    rw [Array.getElem?_modify, if_pos rfl, hb]
    rfl
  have hshape : (w.drew.alloc (.cells cs e)).shape? w.heap.size = some (e, cs.size) := by
    have hb : (w.drew.alloc (.cells cs e)).heap[w.heap.size]? = some (.cells cs e (0, 0)) := heap_alloc_new w.drew _
    simp only [World.shape?, hb]
  have hgr : w.grownBy w' none := by
    refine ⟨rfl, rfl, rfl, by simp [w', World.freeze], fun k hk _ => ?_⟩
    simp only [w', World.freeze, if_neg (by decide : ¬ (1 = 0)), Array.getElem?_modify]
    rw [if_neg (by omega)]
    exact (World.grownBy_alloc w.drew _ none).block k hk (by simp)
  have hrun : (convert src dst (.string s)).run P w = .ok (.slice (some ⟨w.heap.size, 0, none⟩) s.size cap) w' := by
    simp only [convert, Sem.run_bind, run_underlying h1, run_underlying h2, run_underlying h3, Result.andThen_ok]
    simp only [Conv.stringToBytes, Sem.run_bind, run_choose, Question.forced, Bool.false_eq_true, if_false, Result.andThen_ok, newRow, run_newObj, Sem.run_pure, markStringish, run_shape]
    change ((Sem.run P _ (w.drew.alloc (.cells cs e))).andThen _) = _
    erw [hshape]
    rfl
  have hct : RelCt (upd τ id (.slice (some ⟨w.heap.size, 0, none⟩) s.size cap)) S w' (.slice (some ⟨w.heap.size, 0, none⟩) s.size cap) (.rows e 1 (strL s).length (gT fU8 (strL s))) := by
    have hsl : (strL s).length = s.size := by simp [strL]
    rw [hsl]
    refine ⟨cs.toList.take s.size, ⟨by simp; omega, .inr ⟨w.heap.size, cap, cs, _, rfl, hnew, .inr (Nat.le_refl _), hge, hcm, by omega, by rw [Nat.mul_one]⟩⟩, fun i hi j hj => ?_⟩
    obtain rfl : j = 0 := by omega
    have hi' : i < s.data.toList.length := by simpa using hi
    refine ⟨.int .u8 (s.data.toList[i].toNat : Int), ?_, rfl, ?_⟩
    · rw [Nat.mul_one, Nat.add_zero, List.getElem?_take_of_lt hi]
      simp only [cs, Array.toList_append, Array.toList_map]
      rw [List.getElem?_append_left (by simpa using hi'), List.getElem?_map, List.getElem?_eq_getElem hi']
      rfl
    · show _ = _
      simp only [strL, List.getD_eq_getElem?_getD, List.getElem?_map, List.getElem?_eq_getElem hi', Option.map_some, Option.getD_some]
  refine wpOps_do ho hw (y := .slice (some ⟨w.heap.size, 0, none⟩) s.size cap) (w' := w') ?_ ?_
  · simp [execOp, hop, hy, hrun]
  · have hc := h.fresh hid hf hf' hgr (v := .slice (some ⟨w.heap.size, 0, none⟩) s.size cap) (fun b hb => by simp [Value.ownBlock] at hb; omega) hct
    exact k E _ S _ _ hE (hc.put (hE ▸ dst_lt hd) (show _ = upd τ id _ id by simp [upd]))

/-! ### Lending -/
def csFlat : List C → Bool
  | [] => true
  | .d (.v _) :: r => csFlat r
  | .d _ :: _ => false
  | _ :: r => csFlat r
def avFlatB : AV → Bool
  | .c x => csFlat [x]
  | .agg l => csFlat l
  | .dead => true
  | _ => false
def avsFlat : List AV → Bool
  | [] => true
  | x :: r => avFlatB x && avsFlat r
def avFlat : AV → Bool
  | .tup l => avsFlat l
  | x => avFlatB x
def hpFlat : List (Nat × Ct) → Prop
  | [] => True
  | (_, .rows _ _ _ g) :: r => (∀ i j, ∃ x, g i j = .v x) ∧ hpFlat r
  | (_, .box _ cs) :: r => csFlat cs = true ∧ hpFlat r
section
variable {τ : Nat → Value} {S S' : Nat → Prop} {w : World}
theorem RelC.flat {x : C} {y : Value} (h : csFlat [x] = true) (hr : RelC τ S w x y) : RelC τ S' w x y := by
  cases x with
  | d x =>
    cases x with
    | v x => exact hr
    | ro => simp [csFlat] at h
    | rp => simp [csFlat] at h
    | fn => simp [csFlat] at h
  | nm i => exact hr
  | np => exact hr
  | ns => exact hr
theorem csFlat_cons {c : C} {cs : List C} (h : csFlat (c :: cs) = true) : csFlat [c] = true ∧ csFlat cs = true := by
  cases c with
  | d x => cases x <;> simp_all [csFlat]
  | nm i => simpa [csFlat] using h
  | np => simpa [csFlat] using h
  | ns => simpa [csFlat] using h
theorem RelCs.flat : ∀ {l : List C} {us : List Value}, csFlat l = true → RelCs τ S w l us → RelCs τ S' w l us
  | [], [], _, _ => trivial
  | [], _ :: _, _, h => h.elim
  | _ :: _, [], _, h => h.elim
  | _ :: _, _ :: _, hf, ⟨⟨h1, h2⟩, h3⟩ => ⟨⟨h1, h2.flat (csFlat_cons hf).1⟩, h3.flat (csFlat_cons hf).2⟩
theorem RelB.flat : ∀ {x : AV} {y : Value}, avFlatB x = true → RelB τ S w x y → RelB τ S' w x y
  | .c _, _, hf, h => RelC.flat hf h
  | .agg _, _, hf, ⟨us, h1, h2⟩ => ⟨us, h1, h2.flat hf⟩
  | .tup _, _, _, h => h.elim
  | .gd _ _, _, _, h => h.elim
  | .dead, _, _, h => h.elim
theorem RelT.flat : ∀ {l : List AV} {us : List Value}, avsFlat l = true → RelT τ S w l us → RelT τ S' w l us
  | [], [], _, _ => trivial
  | [], _ :: _, _, h => h.elim
  | _ :: _, [], _, h => h.elim
  | _ :: _, _ :: _, hf, ⟨h1, h3⟩ => by
    simp only [avsFlat, Bool.and_eq_true] at hf
    exact ⟨h1.flat hf.1, h3.flat hf.2⟩
theorem RelA.flat : ∀ {x : AV} {y : Value}, avFlat x = true → RelA τ S w x y → RelA τ S' w x y
  | .c _, _, hf, h => RelC.flat hf h
  | .agg _, _, hf, ⟨us, h1, h2⟩ => ⟨us, h1, h2.flat hf⟩
  | .tup _, _, hf, ⟨us, h1, h2⟩ => ⟨us, h1, h2.flat hf⟩
  | .gd _ _, _, hf, _ => by simp [avFlat, avFlatB] at hf
  | .dead, _, _, _ => trivial
end
theorem RelCt.flatHp {τ S S' w} : ∀ {hp : List (Nat × Ct)}, hpFlat hp → ∀ p ∈ hp, ∀ v, RelCt τ S w v p.2 → RelCt τ S' w v p.2
  | [], _, p, hp, _, _ => by cases hp
  | (_, .rows _ _ _ g) :: r, hf, p, hp, v, h => by
    rcases List.mem_cons.1 hp with rfl | hp1
    · obtain ⟨xs, h1, h2⟩ := h
      refine ⟨xs, h1, fun i hi j hj => ?_⟩
      obtain ⟨u, hu1, hu2, hu3⟩ := h2 i hi j hj
      obtain ⟨x, hx⟩ := hf.1 i j
      rw [hx] at hu3 ⊢
      exact ⟨u, hu1, hu2, hu3⟩
    · exact RelCt.flatHp hf.2 p hp1 v h
  | (_, .box _ cs) :: r, hf, p, hp, v, h => by
    rcases List.mem_cons.1 hp with rfl | hp1
    · obtain ⟨b, us, h1, h2, h3⟩ := h
      exact ⟨b, us, h1, h2, h3.flat hf.1⟩
    · exact RelCt.flatHp hf.2 p hp1 v h

/-- A row that the callee only reads, and of which nothing stays in what it hands back, remains the caller's. -/
theorem Spec.lend {P : Program} {f : FuncId} {args : List AV} {hp hp' : List (Nat × Ct)} {res : AV} (id ety sz n : Nat) (g : Nat → Nat → DV) (args0 : List AV)
    (h : Spec P f args0 hp res hp') (hargs : args0 = args.map (frzA id (.ro sz n g))) (hid : (decide (id < newId) && (!((hp.map (·.1)).contains id) && !((hp'.map (·.1)).contains id))) = true) (hfl : avFlat res = true) (hfl2 : hpFlat hp') :
    Spec P f args ((id, .rows ety sz n g) :: hp) res ((id, .rows ety sz n g) :: hp') := by
  subst hargs
  simp only [Bool.and_eq_true, decide_eq_true_eq, Bool.not_eq_true'] at hid
  obtain ⟨hid0, hid1, hid2⟩ := hid
  intro w vals τ S hr hH
  have hl : lkH ((id, .rows ety sz n g) :: hp) id = some (.rows ety sz n g) := by simp [lkH]
  have hd := rows_ro hH hl
  have hsep := List.pairwise_cons.1 hH.sep
  have hr' : RelAs τ (fun b => S b ∨ (τ id).ownBlock = some b) w (args.map (frzA id (.ro sz n g))) vals := by
    clear hH hsep hl h
    induction args generalizing vals with
    | nil => cases vals <;> exact hr
    | cons a args ih =>
      cases vals with
      | nil => exact hr.elim
      | cons v vals => exact ⟨(RelA.mono ⟨fun b hb => .inl hb, fun _ _ => rfl⟩ (fun _ _ => rfl) hr.1).frz hd, ih vals hr.2⟩
  have hH' : HP τ (fun b => S b ∨ (τ id).ownBlock = some b) w hp := by
    refine ⟨fun p hp => (hH.ct p (List.mem_cons_of_mem _ hp)).mono ⟨fun b hb => .inl hb, fun _ _ => rfl⟩ (fun _ _ => rfl) (fun _ _ => rfl), hsep.2, ?_, ?_⟩
    · rintro b (hb | hb)
      · exact hH.s b hb
      · exact (hH.ct (id, .rows ety sz n g) (by simp)).lt b hb
    · rintro b (hb | hb) p hp
      · exact hH.ss b hb p (List.mem_cons_of_mem _ hp)
      · exact (hsep.1 p hp).2 b hb
  refine (h w vals τ _ hr' hH').mono ?_
  rintro e w' ⟨y, τ', S', rfl, hout⟩
  have hτid : τ' id = τ id := hout.base id hid0
  have hnOB : ∀ b, (τ id).ownBlock = some b → ¬ OB τ hp b := by
    rintro b hb ⟨p, hp, hpb⟩
    exact (hsep.1 p hp).2 b hb hpb
  have hSOB : ∀ b, S b → ¬ OB τ hp b := by
    rintro b hb ⟨p, hp, hpb⟩
    exact hH.ss b hb p (List.mem_cons_of_mem _ hp) hpb
  have hidlt : ∀ b, (τ id).ownBlock = some b → b < w.heap.size := fun b hb => (hH.ct (id, .rows ety sz n g) (by simp)).lt b hb
  refine ⟨y, τ', S, rfl, hout.res.flat hfl, ⟨?_, ?_, fun b hb => Nat.lt_of_lt_of_le (hH.s b hb) hout.keep.size, ?_⟩, ?_, fun b hb => .inl hb, ?_, hout.base⟩
  · intro p hp
    rcases List.mem_cons.1 hp with rfl | hp1
    · rw [hτid]
      exact (hH.ct (id, .rows ety sz n g) (by simp)).mono (c := .rows ety sz n g) ⟨fun _ h => h, fun b hb => hout.keep.block b (hH.s b hb) (hSOB b hb)⟩ (fun i hi => by simp [Ct.has] at hi) (fun b hb => hout.keep.block b (hidlt b hb) (hnOB b hb))
    · exact RelCt.flatHp hfl2 p hp1 _ (hout.hp.ct p hp1)
  · refine List.pairwise_cons.2 ⟨fun p hp => ⟨fun e => ?_, fun b hb hpb => ?_⟩, hout.hp.sep⟩
    · simp only [List.contains_eq_mem, decide_eq_false_iff_not] at hid2
      exact hid2 (List.mem_map.2 ⟨p, hp, e.symm⟩)
    · simp only at hb
      rw [hτid] at hb
      rcases hout.own p hp b hpb with ho | ho
      · exact hnOB b hb ho
      · have := hidlt b hb; omega
  · intro b hb p hp
    rcases List.mem_cons.1 hp with rfl | hp1
    · rw [hτid]; exact hH.ss b hb (id, .rows ety sz n g) (by simp)
    · intro hpb
      rcases hout.own p hp1 b hpb with ho | ho
      · exact hSOB b hb ho
      · have := hH.s b hb; omega
  · intro p hp b hpb
    rcases List.mem_cons.1 hp with rfl | hp1
    · rw [hτid] at hpb
      exact .inl ⟨(id, .rows ety sz n g), by simp, hpb⟩
    · rcases hout.own p hp1 b hpb with ⟨q, hq, hqb⟩ | ho
      · exact .inl ⟨q, List.mem_cons_of_mem _ hq, hqb⟩
      · exact .inr ho
  · refine ⟨hout.keep.os, hout.keep.tape, hout.keep.output, hout.keep.size, fun b hb hO => hout.keep.block b hb fun ho => hO ?_⟩
    obtain ⟨q, hq, hqb⟩ := ho
    exact ⟨q, List.mem_cons_of_mem _ hq, hqb⟩

end Go.Abs
