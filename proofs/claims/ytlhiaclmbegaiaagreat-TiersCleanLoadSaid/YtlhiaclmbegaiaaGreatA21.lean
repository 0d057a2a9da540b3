/- DERIVED. Own theory, part 21: sub-slices of named rows, clear, cut; variables made in regions that draw their order; recursion. -/
import Derived.Test.YtlhiaclmbegaiaaGreatA20
set_option linter.unusedVariables false
set_option linter.unusedSimpArgs false
namespace Go.Abs
section
variable {P : Program} {N : Nat} {ρ : Type}

/-! ### s[l:h] of a named row -/
theorem WO.sliceN {ops : Array Oper} {i : Nat} {l0 : List Nat} {st : ASt} {Q : Exit → ASt → Prop} {o : Oper} {t id ety sz n : Nat} {g : Nat → Nat → DV} {x : Operand} {lo hi : Option Operand} {l h : Int}
    (ho : ops[i]? = some o) (hop : o.op = .slice t x lo hi none) (hgd : o.guard = none) (hx : opA st.fr x = .c (.nm id)) (hl : lkH st.hp id = some (.rows ety sz n g))
    (el : boundI 0 (lo.map (opA st.fr)) = some l) (eh : boundI n (hi.map (opA st.fr)) = some h) (he : elemOfS P t = some sz) (hd : dstOk N o.dst = true) (hb : 0 ≤ l ∧ l ≤ h ∧ h ≤ (n : Int))
    (k : WO P N ops l0 ⟨putF st.fr o.dst (.c (.ns id sz l.toNat (h.toNat - l.toNat))), st.hp⟩ Q) : WO P N ops (i :: l0) st Q := by
  intro E τ S a w hE hC
  have hw : Region.wanted o (yielded ops a.tmps) = true := by simp [Region.wanted, hgd]
  obtain ⟨h0, h1, h2⟩ := hb
  have hrx := hC.opA x
  rw [hx] at hrx
  have hy : a.eval x = τ id := hrx
  have bl : BV τ S w (lo.map (opA st.fr)) (lo.map a.eval) := by cases lo with | none => trivial | some y => exact hC.opA y
  have bh : BV τ S w (hi.map (opA st.fr)) (hi.map a.eval) := by cases hi with | none => trivial | some y => exact hC.opA y
  obtain ⟨xs, hown, _⟩ := hC.hp.rows hl
  have he' := he
  unfold elemOfS at he'
  split at he'
  · rename_i e hu
    cases hie : P.info? e with
    | none => simp [hie] at he'
    | some ie =>
      simp [hie] at he'
      have run : ∀ (ad : Option Addr) (c : Nat), τ id = .slice ad n c → n ≤ c → (execOp a.eval o).run P w = .ok (.value (.slice (if c = l.toNat then ad else ad.map (·.add (l.toNat * sz))) (h.toNat - l.toNat) (c - l.toNat))) w := by
        intro ad c hv hc
        have hb := sliceBounds_run (P := P) (isS := true) (cap := c) el eh bl bh h0 h1 h2 hc
        simp [execOp, hop, hy, hv, Instr.sliceAt, Instr.slice, run_underlying hu, hb, sizeOf, typeInfo, hie, he']
      rcases hown.2 with ⟨hnil, hn0⟩ | ⟨b, cap, cur, fz, hv, hg, hfz, hnc, _⟩
      · subst hn0
        have hl0 : l = 0 := by omega
        have hh0 : h = 0 := by omega
        subst hl0 hh0
        have := run none 0 hnil (Nat.le_refl _)
        refine wpOps_do ho hw this (k E τ S _ w hE (hC.put (hE ▸ dst_lt hd) ?_))
        exact ⟨none, 0, rfl, Nat.le_refl _, fun h => absurd h (by simp), fun _ => .inl ⟨by simp, rfl⟩⟩
      · have := run _ _ hv hnc
        refine wpOps_do ho hw this (k E τ S _ w hE (hC.put (hE ▸ dst_lt hd) ?_))
        refine ⟨_, _, rfl, by omega, fun hp => ⟨b, by rw [hv]; rfl, ?_⟩, fun hl0 => .inr ⟨b, n, ?_, ?_, by omega⟩⟩
        · rw [if_neg (by omega)]
          simp [Addr.add_lit]
        · rw [hv, hl0]
          simp
        · rw [hl0]
          split <;> simp [Addr.add_lit]
  · cases he'
def slT (o : Oper) : Nat := match o.op with | .slice t _ _ _ _ => t | _ => 0
def slX (o : Oper) : Operand := match o.op with | .slice _ x _ _ _ => x | _ => .const undef
def slL (o : Oper) : Option Operand := match o.op with | .slice _ _ l _ _ => l | _ => none
def slH (o : Oper) : Option Operand := match o.op with | .slice _ _ _ h _ => h | _ => none
def Step.sliceN (id ety sz n : Nat) (l h : Int) (hb : 0 ≤ l ∧ l ≤ h ∧ h ≤ (n : Int)) : Step P N :=
  .op (fun _ o st => .and (.eq o.op (.slice (slT o) (slX o) (slL o) (slH o) none)) (.and (.eq o.guard none) (.and (.eq (opA st.fr (slX o)) (.c (.nm id)))
      (.and (.eq ((lkH st.hp id).map fun | .rows e s n _ => (e, s, n) | .box e _ => (e, 0, 0)) (some (ety, sz, n))) (.and (match lkH st.hp id with | some (.rows ..) => .nil | _ => .bad)
      (.and (.eq (boundI 0 ((slL o).map (opA st.fr))) (some l)) (.and (.eq (boundI n ((slH o).map (opA st.fr))) (some h)) (.and (.eq (elemOfS P (slT o)) (some sz)) (.eq (dstOk N o.dst) true)))))))))
    (fun _ o st => ⟨putF st.fr o.dst (.c (.ns id sz l.toNat (h.toNat - l.toNat))), st.hp⟩)
    (fun ops o i l0 st Q ho hx k => by
      obtain ⟨h1, h2, h3, h4, h5, h6, h7, h8, h9⟩ := hx
      split at h5
      · rename_i e s m g hl
        have h4 : ((lkH st.hp id).map fun | .rows e s n _ => (e, s, n) | .box e _ => (e, 0, 0)) = some (ety, sz, n) := h4
        rw [hl] at h4
        simp only [Option.map_some, Option.some.injEq, Prod.mk.injEq] at h4
        obtain ⟨rfl, rfl, rfl⟩ := h4
        exact WO.sliceN ho h1 h2 h3 hl h6 h7 h8 h9 hb k
      · exact h5.elim)

/-! ### Elements of a named row are written, many at a time -/
theorem Cfg.wrow {E τ S st a w} (h : Cfg E τ S st a w) {id ety sz n b off m : Nat} {g gx g' : Nat → Nat → DV} {vs : List Value} (hl : lkH st.hp id = some (.rows ety sz n g)) (hb : (τ id).ownBlock = some b) (hle : off + m ≤ n) (hlen : vs.length = m * sz)
    (hv : ∀ i, i < m → ∀ j, j < sz → ∃ u, vs[i * sz + j]? = some u ∧ u.oneCell' = true ∧ RelD S w (gx i j) u) (hg' : ∀ i, i < n → ∀ j, j < sz → g' i j = if off ≤ i ∧ i < off + m then gx (i - off) j else g i j) :
    ∃ w', (storeCells ⟨b, off * sz, none⟩ vs 0).run P w = .ok () w' ∧ Cfg E τ S ⟨st.fr, setHp st.hp id (.rows ety sz n g')⟩ a w' := by
  obtain ⟨xs, hown, hc⟩ := h.hp.rows hl
  have hn : ∃ g0 cap cur fz, τ id = .slice (some ⟨g0, 0, none⟩) n cap ∧ w.heap[g0]? = some (.cells cur ety fz) ∧ okFz fz cur.size ∧ n ≤ cap ∧ cap ≤ maxLen ∧ cur.size = cap * sz ∧ cur.toList.take (n * sz) = xs := by
    rcases hown.2 with ⟨hnil, _⟩ | h
    · rw [hnil] at hb; simp [Value.ownBlock] at hb
    · exact h
  obtain ⟨g0, cap, cur, fz, hτ, hg, hfz, hnc, hcm, hcs, htake⟩ := hn
  have hbg : g0 = b := by rw [hτ] at hb; simpa [Value.ownBlock] using hb
  subst hbg
  have hcap : n * sz ≤ cap * sz := Nat.mul_le_mul_right _ hnc
  have hlt : off * sz + m * sz ≤ n * sz := by rw [← Nat.add_mul]; exact Nat.mul_le_mul_right _ hle
  have hones : ∀ v ∈ vs, v.oneCell' = true := by
    intro v hvm
    obtain ⟨q, hq, rfl⟩ := List.getElem_of_mem hvm
    have hsz : 0 < sz := by
      rcases Nat.eq_zero_or_pos sz with h0 | h0
      · subst h0; simp at hlen; subst hlen; simp at hq
      · exact h0
    obtain ⟨u, h1, h2, _⟩ := hv (q / sz) (by rw [Nat.div_lt_iff_lt_mul hsz]; omega) (q % sz) (Nat.mod_lt _ hsz)
    rw [show q / sz * sz + q % sz = q from by rw [Nat.mul_comm]; exact Nat.div_add_mod q sz, List.getElem?_eq_getElem hq] at h1
    cases h1
    exact h2
  obtain ⟨w', hrun, hgr, _, hheap⟩ := storeCells_run (P := P) vs (off * sz) 0 cur w hg hfz (by rw [hlen, hcs]; omega) hones
  refine ⟨w', hrun, ?_⟩
  have hnS : ∀ b', some g0 = some b' → ¬ S b' := fun b' hb' hS => by cases hb'; exact h.hp.ss _ hS _ (lkH_mem hl) (by rw [hτ]; rfl)
  have hst : Stays τ τ S S w w' := stays_of hgr (fun _ h => h) h.hp.s hnS
  have hcurlen : off * sz + vs.length ≤ cur.toList.length := by rw [hlen, Array.length_toList, hcs]; omega
  rw [Nat.add_zero] at hheap
  have hsz2 : (setMany cur.toList (off * sz) vs).toArray.size = cur.size := by
    simp only [setMany, List.size_toArray, List.length_append, List.length_take, List.length_drop, Array.length_toList] at *
    omega
  refine h.write hl (by rw [hτ]; rfl) hgr ⟨(setMany cur.toList (off * sz) vs).take (n * sz), ⟨?_, .inr ⟨g0, cap, _, fz, hτ, hheap, by rw [hsz2]; exact hfz, hnc, hcm, by rw [hsz2]; exact hcs, rfl⟩⟩, fun i' hi' j' hj' => ?_⟩
  · rw [List.length_take]
    have : (setMany cur.toList (off * sz) vs).length = cur.size := by simpa using hsz2
    omega
  · have hlt' : i' * sz + j' < n * sz := by
      have : (i' + 1) * sz ≤ n * sz := Nat.mul_le_mul_right _ hi'
      rw [Nat.add_mul, Nat.one_mul] at this
      omega
    rw [List.getElem?_take_of_lt hlt', setMany_at _ _ _ hcurlen, hg' i' hi' j' hj', hlen]
    have hiff : (off * sz ≤ i' * sz + j' ∧ i' * sz + j' < off * sz + m * sz) ↔ (off ≤ i' ∧ i' < off + m) := by
      constructor
      · rintro ⟨h1, h2⟩
        constructor
        · refine Nat.le_of_not_lt fun hh => ?_
          have : (i' + 1) * sz ≤ off * sz := Nat.mul_le_mul_right _ hh
          rw [Nat.add_mul, Nat.one_mul] at this
          omega
        · refine Nat.lt_of_not_le fun hh => ?_
          have : (off + m) * sz ≤ i' * sz := Nat.mul_le_mul_right _ hh
          rw [Nat.add_mul] at this
          omega
      · rintro ⟨h1, h2⟩
        have h3 : off * sz ≤ i' * sz := Nat.mul_le_mul_right _ h1
        have h4 : (i' + 1) * sz ≤ (off + m) * sz := Nat.mul_le_mul_right _ h2
        rw [Nat.add_mul, Nat.add_mul, Nat.one_mul] at h4
        omega
    by_cases hcnd : off ≤ i' ∧ i' < off + m
    · rw [if_pos (hiff.2 hcnd), if_pos hcnd]
      obtain ⟨u, hu1, hu2, hu3⟩ := hv (i' - off) (by omega) j' hj'
      refine ⟨u, ?_, hu2, RelD.mono (fun _ h => h) hst.h _ _ hu3⟩
      rw [show i' * sz + j' - off * sz = (i' - off) * sz + j' from by rw [Nat.sub_mul]; have := Nat.mul_le_mul_right sz hcnd.1; omega]
      exact hu1
    · rw [if_neg (fun hh => hcnd (hiff.1 hh)), if_neg hcnd]
      obtain ⟨u, hu1, hu2, hu3⟩ := hc i' hi' j' hj'
      refine ⟨u, ?_, hu2, RelD.mono (fun _ h => h) hst.h _ _ hu3⟩
      rw [← htake, List.getElem?_take_of_lt hlt'] at hu1
      exact hu1
/-- L with the elements from off on overwritten by X. -/
def ovr {α : Type} (L : List α) (off : Nat) (X : List α) : List α := L.take off ++ X ++ L.drop (off + X.length)
theorem ovr_length {α : Type} {L : List α} {off : Nat} {X : List α} (h : off + X.length ≤ L.length) : (ovr L off X).length = L.length := by
  simp [ovr]; omega
theorem gT_ovr {α : Type} [Inhabited α] {f : α → Nat → DV} {L : List α} {off : Nat} {X : List α} (h : off + X.length ≤ L.length) (i : Nat) (j : Nat) :
    gT f (ovr L off X) i j = if off ≤ i ∧ i < off + X.length then gT f X (i - off) j else gT f L i j := by
  unfold gT ovr
  simp only [List.getD_eq_getElem?_getD]
  have hlen : (L.take off).length = off := by simp; omega
  by_cases h1 : i < off
  · rw [if_neg (by omega), List.append_assoc, List.getElem?_append_left (by omega), List.getElem?_take_of_lt h1]
  · by_cases h2 : i < off + X.length
    · rw [if_pos (by omega), List.getElem?_append_left (by simp; omega), List.getElem?_append_right (by omega), hlen]
    · rw [if_neg (by omega), List.getElem?_append_right (by simp; omega), List.getElem?_drop]
      simp only [List.length_append, hlen]
      rw [show off + X.length + (i - (off + X.length)) = i from by omega]

/-- clear of a sub-slice of a named row. -/
theorem WO.clear {ops : Array Oper} {i : Nat} {l : List Nat} {st : ASt} {Q : Exit → ASt → Prop} {o : Oper} {c : Call} {x : Operand} {t id ety sz off m : Nat} {α : Type} [Inhabited α] {f : α → Nat → DV} {L : List α} (z0 : α)
    (ho : ops[i]? = some o) (hop : o.op = .call c) (hcal : c.callee = .builtin .clear) (hargs : c.args.toList = [x]) (htys : c.argTypes.toList = [t]) (hgd : o.guard = none) (hx : opA st.fr x = .c (.ns id sz off m)) (hl : lkH st.hp id = some (.rows ety sz L.length (gT f L)))
    (hut : P.underlying t = some (.slice ety)) (hz : zDV P ety sz = some ((List.range sz).map (f z0)) ∨ ∃ zs, zDV P ety sz = some zs ∧ zs.length = sz ∧ CsImp (zs.map .d) (((List.range sz).map (f z0)).map .d)) (hle : off + m ≤ L.length) (hd : dstOk N o.dst = true)
    (k : WO P N ops l ⟨putF st.fr o.dst .dead, setHp st.hp id (.rows ety sz (ovr L off (List.replicate m z0)).length (gT f (ovr L off (List.replicate m z0))))⟩ Q) : WO P N ops (i :: l) st Q := by
  have hz : ∃ zs, zDV P ety sz = some zs ∧ zs.length = sz ∧ CsImp (zs.map .d) (((List.range sz).map (f z0)).map .d) := by
    rcases hz with h | h
    · refine ⟨_, h, by simp, ?_⟩
      generalize (List.range sz).map (f z0) = l
      induction l with
      | nil => exact CsImp.nil
      | cons c l ih => exact CsImp.cons CImp.same ih
    · exact h
  obtain ⟨zs, hzd, hzl, himp⟩ := hz
  intro E τ S a w hE hC
  have hw : Region.wanted o (yielded ops a.tmps) = true := by simp [Region.wanted, hgd]
  have hrx := hC.opA x
  rw [hx] at hrx
  obtain ⟨ad, cc, hy, hmc, hpos, _⟩ := hrx
  unfold zDV at hzd
  cases hie : P.info? ety with
  | none => simp [hie] at hzd
  | some ie =>
    simp only [hie] at hzd
    cases hiz : ie.zero with
    | none => simp [hiz] at hzd
    | some z =>
      simp only [hiz] at hzd
      split at hzd
      · rename_i hcond
        simp only [Option.some.injEq] at hzd
        obtain ⟨hs1, hs2, hs0, hs3⟩ := hcond
        have ha : c.args = #[x] := by apply Array.ext'; simpa using hargs
        have ht : c.argTypes = #[t] := by apply Array.ext'; simpa using htys
        rcases Nat.eq_zero_or_pos m with hm | hm
        · subst hm
          have hrun : (execOp a.eval o).run P w = .ok (.value (.tuple #[])) w := by
            have e : (Builtin.clear_ #[t] o.type #[.slice ad 0 cc]).run P w = .ok (.tuple #[]) w := by
              cases ad <;> simp [Builtin.clear_, run_underlying hut]
            simp [execOp, hop, resolve, hcal, ha, ht, invoke, builtin, hy, e]
          have hov : ovr L off (List.replicate 0 z0) = L := by simp [ovr]
          rw [hov] at k
          have hset : setHp st.hp id (.rows ety sz L.length (gT f L)) = st.hp := by
            clear k hC
            revert hl
            induction st.hp with
            | nil => intro h; simp [lkH] at h
            | cons q r ih =>
              obtain ⟨kk, v⟩ := q
              intro h
              unfold lkH at h
              unfold setHp
              split at h
              · rename_i e
                cases h
                rw [if_pos e]
              · rename_i e
                rw [if_neg e, ih h]
          rw [hset] at k
          exact wpOps_do ho hw hrun (k E τ S _ w hE (hC.put (hE ▸ dst_lt hd) trivial))
        · obtain ⟨b, hb, rfl⟩ := hpos hm
          have hzc : ∀ j, j < sz → ∃ u, z.cells.toList[j]? = some u ∧ u.oneCell' = true ∧ RelD S w (f z0 j) u := by
            intro j hj
            have hj' : j < z.cells.size := by omega
            refine ⟨z.cells[j], by simp [hj'], ?_, ?_⟩
            · exact Array.all_eq_true_iff_forall_mem.1 hs3 _ (by simp)
            · have key : ∀ (A B : List DV), CsImp (A.map .d) (B.map .d) → ∀ (j : Nat) (u : Value) (d d' : DV), A[j]? = some d → B[j]? = some d' → RelD S w d u → RelD S w d' u := by
                intro A
                induction A with
                | nil => intro B _ j u d d' h; simp at h
                | cons a0 A ih =>
                  intro B hAB j u d d' h1 h2 h3
                  cases B with
                  | nil => simp at h2
                  | cons b0 B =>
                    obtain ⟨hab, hAB⟩ := hAB
                    cases j with
                    | zero =>
                      simp only [List.getElem?_cons_zero, Option.some.injEq] at h1 h2
                      subst h1 h2
                      exact hab τ S w u h3
                    | succ j => exact ih B hAB j u d d' (by simpa using h1) (by simpa using h2) h3
              refine key _ _ himp j _ (.v (z.cells[j])) (f z0 j) ?_ (by simp [hj]) rfl
              rw [← hzd]
              simp [hj, hj']
          have hcl : (Builtin.zeroCells z.cells m).toList.length = m * sz := by simp [Builtin.zeroCells, hs2]
          obtain ⟨w', hrun, hC'⟩ := hC.wrow (P := P) (off := off) (m := m) (gx := gT f (List.replicate m z0)) (g' := gT f (ovr L off (List.replicate m z0))) (vs := (Builtin.zeroCells z.cells m).toList) hl hb hle hcl (fun i hi j hj => by
            obtain ⟨u, h1, h2, h3⟩ := hzc j hj
            refine ⟨u, ?_, h2, ?_⟩
            · have hlt : i * sz + j < m * sz := by
                have : (i + 1) * sz ≤ m * sz := Nat.mul_le_mul_right _ hi
                rw [Nat.add_mul, Nat.one_mul] at this
                omega
              have hmod : (i * sz + j) % sz = j := by rw [Nat.mul_comm, Nat.mul_add_mod]; exact Nat.mod_eq_of_lt hj
              have hj' : j < z.cells.size := by omega
              simp only [Builtin.zeroCells, hs2, Array.toList_map, List.getElem?_map, Array.toList_range, List.getElem?_range hlt, Option.map_some, hmod]
              rw [← h1]
              simp [hj']
            · simp only [gT, List.getD_eq_getElem?_getD, List.getElem?_replicate, hi, if_true, Option.getD_some]
              exact h3) (fun i hi j hj => by
            have := gT_ovr (f := f) (L := L) (off := off) (X := List.replicate m z0) (by simpa using hle) i j
            simpa using this)
          rw [← ovr_length (L := L) (off := off) (X := List.replicate m z0) (by simpa using hle)] at hC'
          have hrun2 : (execOp a.eval o).run P w = .ok (.value (.tuple #[])) w' := by
            have hm' : m ≠ 0 := by omega
            have e : (Builtin.clear_ #[t] o.type #[.slice (some ⟨b, off * sz, none⟩) m cc]).run P w = .ok (.tuple #[]) w' := by
              cases m with
              | zero => omega
              | succ m' => simp [Builtin.clear_, run_underlying hut, zeroValue, typeInfo, hie, hiz, hrun]
            simp [execOp, hop, resolve, hcal, ha, ht, invoke, builtin, hy, e]
          exact wpOps_do ho hw hrun2 (k E τ S _ w' hE (hC'.put (hE ▸ dst_lt hd) trivial))
      · cases hzd
def Step.clear {α : Type} [Inhabited α] (f : α → Nat → DV) (L : List α) (z0 : α) (id ety sz off m : Nat) (zs : List DV) (hz : CsImp (zs.map .d) (((List.range sz).map (f z0)).map .d)) (hle : off + m ≤ L.length) : Step P N :=
  .op (fun _ o st => .and (isCall o) (.and (.eq (callOf o).callee (.builtin .clear)) (.and (.eq (callOf o).args.toList [arg0 o 0]) (.and (.eq (callOf o).argTypes.toList [typ0 o 0]) (.and (.eq o.guard none)
      (.and (.eq (opA st.fr (arg0 o 0)) (.c (.ns id sz off m))) (.and (.eq (lkH st.hp id) (some (.rows ety sz L.length (gT f L)))) (.and (.eq (P.underlying (typ0 o 0)) (some (.slice ety))) (.and (.eq (zDV P ety sz) (some zs)) (.and (.eq zs.length sz) (.eq (dstOk N o.dst) true)))))))))))
    (fun _ o st => ⟨putF st.fr o.dst .dead, setHp st.hp id (.rows ety sz (ovr L off (List.replicate m z0)).length (gT f (ovr L off (List.replicate m z0))))⟩)
    (fun ops o i l st Q ho hx k => by
      obtain ⟨h1, h2, h3, h4, h5, h6, h7, h8, h9, h10, h11⟩ := hx
      exact WO.clear z0 ho (isCall_eq h1) h2 h3 h4 h5 h6 h7 h8 (.inr ⟨zs, h9, h10, hz⟩) hle h11 k)

/-! ### A row is cut: its head goes over to a new name -/
theorem Cfg.cutR {E τ S st a w} (h : Cfg E τ S st a w) {t id new ety sz n m : Nat} {g g' : Nat → Nat → DV} (ht : t < E.N) (hv : Abs.lk st.fr t = .c (.ns id sz 0 m)) (hl : lkH st.hp id = some (.rows ety sz n g)) (hid : newId ≤ new) (hf : frFresh new st.fr = true) (hf' : hpFresh new st.hp = true)
    (hg : ∀ i, i < m → ∀ j, j < sz → g' i j = g i j) (hmn : m ≤ n) : ∃ τ', Cfg E τ' S ⟨putF st.fr (some t) (.c (.nm new)), (new, .rows ety sz m g') :: del st.hp id⟩ a w := by
  have hr := h.lk t
  rw [hv] at hr
  obtain ⟨ad, c, hy, hmc, _, h0⟩ := hr
  have hgr : ∀ r, w.grownBy w r := fun r => ⟨rfl, rfl, rfl, Nat.le_refl _, fun _ _ _ => rfl⟩
  obtain ⟨xs, hown, hc⟩ := h.hp.rows hl
  have hput : ∀ (τ' : Nat → Value) (v : Value), τ' = upd τ new v → a.tmps.getD t undef = v → Cfg E τ' S ⟨st.fr, (new, .rows ety sz m g') :: del st.hp id⟩ a w → Cfg E τ' S ⟨putF st.fr (some t) (.c (.nm new)), (new, .rows ety sz m g') :: del st.hp id⟩ a w := by
    intro τ' v e1 e2 hc
    refine hc.imp' ht ?_
    show a.tmps.getD t undef = τ' new
    rw [e2, e1, upd_same]
  rcases h0 rfl with ⟨hm0, hn⟩ | ⟨b, m0, hτ, had, hm0⟩
  · subst hm0
    refine ⟨_, hput _ _ rfl hn (h.swap hl hid hf hf' (hgr _) (fun b hb => by simp [Value.ownBlock] at hb) ?_)⟩
    exact ⟨[], ⟨by simp, .inl ⟨rfl, rfl⟩⟩, fun i hi => absurd hi (by omega)⟩
  · subst had
    refine ⟨_, hput _ _ rfl hy (h.swap hl hid hf hf' (hgr _) (fun b' hb' => .inl (by rw [hτ]; exact hb')) ?_)⟩
    rcases hown.2 with ⟨hnil, _⟩ | ⟨g0, cap, cur, fz, hv2, hg0, hfz, hnc, hcm, hcs, htake⟩
    · rw [hτ] at hnil; cases hnil
    · rw [hτ] at hv2
      cases hv2
      have hle : m * sz ≤ n * sz := Nat.mul_le_mul_right _ hmn
      refine ⟨cur.toList.take (m * sz), ⟨?_, .inr ⟨_, _, cur, fz, rfl, hg0, hfz, hmc, hcm, hcs, rfl⟩⟩, fun i hi j hj => ?_⟩
      · have hcap : n * sz ≤ c * sz := Nat.mul_le_mul_right _ hnc
        rw [List.length_take, Array.length_toList, hcs]
        have h2 : m * sz ≤ c * sz := Nat.mul_le_mul_right _ hmc
        omega
      · obtain ⟨u, h1, h2, h3⟩ := hc i (by omega) j hj
        rw [← htake, List.getElem?_take] at h1
        split at h1
        · have hlt : i * sz + j < m * sz := by
            have : (i + 1) * sz ≤ m * sz := Nat.mul_le_mul_right _ hi
            rw [Nat.add_mul, Nat.one_mul] at this
            omega
          exact ⟨u, by rw [List.getElem?_take_of_lt hlt]; exact h1, h2, by rw [hg i hi j hj]; exact h3⟩
        · cases h1
def Step.cutR {α : Type} [Inhabited α] (f : α → Nat → DV) (L : List α) (t id new ety sz m : Nat) (hm : m ≤ L.length) : Step P N :=
  .tr (fun st => .and (.eq (lk st.fr t) (.c (.ns id sz 0 m))) (.and (.eq (lkH st.hp id) (some (.rows ety sz L.length (gT f L)))) (.eq (Nat.blt t N && (decide (newId ≤ new) && (frFresh new st.fr && hpFresh new st.hp))) true)))
    (fun st => ⟨putF st.fr (some t) (.c (.nm new)), (new, .rows ety sz (L.take m).length (gT f (L.take m))) :: del st.hp id⟩) (fun st hx E τ S a w hE hc => by
    obtain ⟨h1, h2, h3⟩ := hx
    have h3 : (Nat.blt t N && (decide (newId ≤ new) && (frFresh new st.fr && hpFresh new st.hp))) = true := h3
    simp only [Bool.and_eq_true, decide_eq_true_eq] at h3
    have hlen : (L.take m).length = m := by simp; omega
    rw [hlen]
    obtain ⟨τ', hc'⟩ := hc.cutR (g' := gT f (L.take m)) (hE ▸ Nat.blt_eq.mp h3.1) h1 h2 h3.2.1 h3.2.2.1 h3.2.2.2 (fun i hi j _ => by simp [gT, List.getD_eq_getElem?_getD, List.getElem?_take_of_lt hi]) hm
    exact ⟨τ', S, hc'⟩)

/-! ### A variable made in a region that draws its order -/
def allocO (P : Program) (e : Nat) : Option (List C) := ((P.info? e).bind (·.zero)).bind zeroC
def EffC.alloc (j e id n : Nat) (cs : List C) : EffC P N where
  j := j
  v := .c (.np id n 0 0)
  h hp := (id, .box e cs) :: hp
  x ops V fr hp o := .and (.eq o.op (.alloc e)) (.and (.eq o.guard none) (.and (.eq (allocO P e) (some cs)) (.and (.eq cs.length n) (.eq (decide (newId ≤ id) && (frFresh id fr && (hpFresh id hp && (dstOk N o.dst && newD ops V j id)))) true))))
  ok ops V fr hp o ho hv hx := by
    obtain ⟨h1, h2, h3, h4, h5⟩ := hx
    have h1 : o.op = .alloc e := h1
    have h2 : o.guard = none := h2
    have h3 : allocO P e = some cs := h3
    have h4 : cs.length = n := h4
    have h5 : (decide (newId ≤ id) && (frFresh id fr && (hpFresh id hp && (dstOk N o.dst && newD ops V j id)))) = true := h5
    simp only [Bool.and_eq_true, decide_eq_true_eq] at h5
    obtain ⟨c1, c2, c3, c4, c5⟩ := h5
    intro fr' henv _ hfresh Q hQ
    have c2' := hfresh id c2 c5
    rw [hv, dstOf_eq ho] at hQ
    unfold allocO at h3
    cases hi : P.info? e with
    | none => simp [hi] at h3
    | some ie =>
      simp only [hi, Option.bind_some] at h3
      cases hz : ie.zero with
      | none => simp [hz] at h3
      | some z =>
        simp only [hz, Option.bind_some] at h3
        refine WO.step (st := ⟨fr', hp⟩) (nx := id) (nx' := id + 1) (p := none) ho ?_ trivial (WO.nil hQ)
        unfold astep
        rw [if_pos c4]
        have hg : guardOf fr' ops o = some none := by unfold guardOf; rw [h2]
        simp only [hg, h1, hi, hz, h3, ← h4]
        rw [if_pos (by simp only [Bool.and_eq_true, decide_eq_true_eq]; exact ⟨c1, c2', c3⟩)]

/-! ### Recursion, by fuel -/
def iter {α β : Type} (G : (α → Option β) → α → Option β) : Nat → α → Option β
  | 0, _ => none
  | n + 1, a => G (iter G n) a
theorem iter_ind {α β : Type} {G : (α → Option β) → α → Option β} {R : α → β → Prop} (h : ∀ g, (∀ a r, g a = some r → R a r) → ∀ a r, G g a = some r → R a r) : ∀ n a r, iter G n a = some r → R a r
  | 0, _, _, h0 => by simp [iter] at h0
  | n + 1, a, r, h0 => h (iter G n) (fun a r => iter_ind h n a r) a r h0
theorem slle {l h : Int} {n : Nat} (g : (0 : Int) ≤ l ∧ l ≤ h ∧ h ≤ (n : Int)) : l.toNat + (h.toNat - l.toNat) ≤ n := by omega
theorem slle0 {l h : Int} {n : Nat} (g : (0 : Int) ≤ l ∧ l ≤ h ∧ h ≤ (n : Int)) : h.toNat - l.toNat ≤ n := by omega
/-! ### A function value called in a region that draws its order -/
theorem EffD.callV {ops : Array Oper} {V : Nat → AV} {fr : List (Nat × AV)} {j : Nat} {hp hp2 : List (Nat × Ct)} {o : Oper} {c : Call} {x : Operand} {f : FuncId} {caps args : List AV} {hp0 hp' : List (Nat × Ct)} {res : AV}
    (old new : List (Nat × Nat)) (ho : ops[j]? = some o) (hop : o.op = .call c) (hcal : c.callee = .value x) (hcv : calleeOf (envD ops V fr j x) = some (f, caps)) (hg : o.guard = none) (hcb : callable P f = true) (spec : Spec P f args hp0 res hp')
    (hargs : c.args.toList.map (envD ops V fr j) ++ caps = args.map (renA (asc old))) (hlk : lkAll hp (asc old) hp0)
    (hchk : (nodupB (hp0.map fun p => asc old p.1) && (freshAll ⟨fr, hp⟩ new && ((hp0.all fun p => decide (p.1 < newId)) &&
      (avIn (new ++ (hp0.map fun p => (p.1, asc old p.1))) res && (hpIn (new ++ (hp0.map fun p => (p.1, asc old p.1))) hp' && dstOk N o.dst))))) = true) (hn : (new.all fun p => newD ops V j p.2) = true)
    (hV : V j = renA (asc (new ++ (hp0.map fun p => (p.1, asc old p.1)))) res) (hhp : hp2 = renHp (asc (new ++ (hp0.map fun p => (p.1, asc old p.1)))) hp' ++ delAll hp (hp0.map fun p => asc old p.1)) : EffD P N ops V fr j hp hp2 := by
  intro fr' henv _ hfresh Q hQ
  simp only [ho] at henv
  simp only [Bool.and_eq_true] at hchk
  obtain ⟨c1, c2, c3, c5, c6, c7⟩ := hchk
  have c2' : freshAll ⟨fr', hp⟩ new = true := freshAll_mono (fun p hp h => hfresh p.2 h (List.all_eq_true.1 hn p hp)) c2
  have ex := henv x (by simp only [hop, Op.operands, Call.operands, hcal]; simp)
  refine WO.callV (st := ⟨fr', hp⟩) old new ho hop hcal (by rw [ex]; exact hcv) hg hcb spec ?_ hlk (by simp only [Bool.and_eq_true]; exact ⟨c1, c2', c3, c5, c6, c7⟩) (WO.nil ?_)
  · rw [← hargs]
    congr 1
    refine List.map_congr_left fun x hx => henv x ?_
    simp only [hop, Op.operands, Call.operands]; simp; exact .inr (by simpa using hx)
  · rw [hV, hhp, dstOf_eq ho] at hQ
    exact hQ
def EffC.callV {args : List AV} {hp0 hp' : List (Nat × Ct)} {res : AV} {f : FuncId} (j : Nat) (old new : List (Nat × Nat)) (spec : Spec P f args hp0 res hp') : EffC P N where
  j := j
  v := renA (asc (new ++ (hp0.map fun p => (p.1, asc old p.1)))) res
  h hp := renHp (asc (new ++ (hp0.map fun p => (p.1, asc old p.1)))) hp' ++ delAll hp (hp0.map fun p => asc old p.1)
  x ops V fr hp o := .and (isCall o) (.and (.eq (callOf o).callee (.value (calX o))) (.and (.eq o.guard none) (.and (.eq (callable P f) true)
      (.and (match calleeOf (envD ops V fr j (calX o)) with
        | some (f', caps) => .and (.eq f' f) (.eq ((callOf o).args.toList.map (envD ops V fr j) ++ caps) (args.map (renA (asc old))))
        | none => .bad) (.and (lkEq hp (asc old) hp0)
      (.and (.eq (nodupB (hp0.map fun p => asc old p.1) && (freshAll ⟨fr, hp⟩ new && ((hp0.all fun p => decide (p.1 < newId)) && (avIn (new ++ (hp0.map fun p => (p.1, asc old p.1))) res && (hpIn (new ++ (hp0.map fun p => (p.1, asc old p.1))) hp' && dstOk N o.dst))))) true) (.eq (new.all fun p => newD ops V j p.2) true)))))))
  ok ops V fr hp o ho hv hx := by
    obtain ⟨h1, h2, h3, h4, h5, h6, h7, h8⟩ := hx
    split at h5
    · rename_i f' caps hcv
      obtain ⟨h51, h52⟩ := h5
      have h51 : f' = f := h51
      subst h51
      exact EffD.callV old new ho (isCall_eq h1) h2 hcv h3 h4 spec h52 (lkEq_all h6) h7 h8 hv rfl
    · exact h5.elim

/-! ### A contract's row handed back read-only -/
theorem Out.frz {τ S w h0 τ' S' w' res y hp'} (h : Out τ S w h0 τ' S' w' res y hp') {id ety sz n : Nat} {g : Nat → Nat → DV} (hl : lkH hp' id = some (.rows ety sz n g)) :
    Out τ S w h0 τ' (fun b => S' b ∨ (τ' id).ownBlock = some b) w' (frzA id (.ro sz n g) res) y ((del hp' id).map fun p => (p.1, frzCt id (.ro sz n g) p.2)) := by
  have hd := rows_ro h.hp hl
  have hm := lkH_mem hl
  have hs : Stays τ' τ' S' (fun b => S' b ∨ (τ' id).ownBlock = some b) w' w' := ⟨fun b hb => .inl hb, fun _ _ => rfl⟩
  refine ⟨(h.res.mono hs fun _ _ => rfl).frz hd, ⟨?_, ?_, ?_, ?_⟩, ?_, ?_, h.keep, h.base⟩
  · intro p hp
    obtain ⟨q, hq, rfl⟩ := List.mem_map.1 hp
    have hq0 := (mem_del.1 hq).1
    have hr := (h.hp.ct q hq0).mono hs (fun _ _ => rfl) (fun _ _ => rfl)
    obtain ⟨qi, qc⟩ := q
    cases qc with
    | rows e sz n g => exact hr
    | box e l =>
      obtain ⟨b, us, h1, h2, h3⟩ := hr
      exact ⟨b, us, h1, h2, h3.frz hd⟩
  · rw [List.pairwise_map]
    exact del_pairwise h.hp.sep
  · rintro b (hb | hb)
    · exact h.hp.s b hb
    · exact (h.hp.ct _ hm).lt b hb
  · rintro b (hb | hb) p hp
    · obtain ⟨q, hq, rfl⟩ := List.mem_map.1 hp
      exact h.hp.ss b hb q (mem_del.1 hq).1
    · obtain ⟨q, hq, rfl⟩ := List.mem_map.1 hp
      obtain ⟨hq0, hqne⟩ := mem_del.1 hq
      exact h.hp.apart hm hq0 (Ne.symm hqne) b hb
  · intro p hp
    obtain ⟨q, hq, rfl⟩ := List.mem_map.1 hp
    exact h.own q (mem_del.1 hq).1
  · rintro b (hb | hb)
    · exact h.so b hb
    · exact .inr (h.own _ hm b hb)
theorem Spec.frz {f : FuncId} {args : List AV} {hp hp' : List (Nat × Ct)} {res : AV} (h : Spec P f args hp res hp') (id ety sz n : Nat) (g : Nat → Nat → DV) (res2 : AV) (hp2 : List (Nat × Ct)) (hl : lkH hp' id = some (.rows ety sz n g))
    (h1 : frzA id (.ro sz n g) res = res2) (h2 : ((del hp' id).map fun p => (p.1, frzCt id (.ro sz n g) p.2)) = hp2) : Spec P f args hp res2 hp2 := by
  subst h1 h2
  intro w vals τ S hr hH
  refine (h w vals τ S hr hH).mono ?_
  rintro e w' ⟨y, τ', S', rfl, ho⟩
  exact ⟨y, τ', _, rfl, ho.frz hl⟩
end
end Go.Abs
