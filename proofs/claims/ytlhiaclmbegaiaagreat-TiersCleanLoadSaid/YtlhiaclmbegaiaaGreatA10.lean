/- DERIVED. Own theory, part 10: append, make, stores into rows, strings' bytes. -/
import Derived.Test.YtlhiaclmbegaiaaGreatA9
set_option linter.unusedVariables false
set_option linter.unusedSimpArgs false
namespace Go.Abs

theorem OwnR.own {w : World} {e size n : Nat} {v : Value} {xs : List Value} (h : OwnR w e size v n xs) (hn : 0 < n) : ∃ g cap cur fz, v = .slice (some ⟨g, 0, none⟩) n cap ∧ w.heap[g]? = some (.cells cur e fz) ∧ okFz fz cur.size ∧ n ≤ cap ∧ cap ≤ maxLen ∧ cur.size = cap * size ∧ cur.toList.take (n * size) = xs := by
  rcases h.2 with ⟨_, h0⟩ | h
  · omega
  · exact h

/-! ### append -/
def isSrcD : TypeDesc → Bool
  | .slice _ | .string => true
  | _ => false
theorem isSrcD_or {d : TypeDesc} (h : isSrcD d = true) : (∃ e, d = .slice e) ∨ d = .string := by
  unfold isSrcD at h
  split at h
  · exact .inl ⟨_, rfl⟩
  · exact .inr rfl
  · cases h
theorem append_run {P : Program} {t t2 ty e : TypeId} {i : TypeInfo} {z : Value} {d2 : TypeDesc} (ht : P.underlying t = some (.slice e)) (ht2 : P.underlying t2 = some d2) (hd2 : (∃ e, d2 = .slice e) ∨ d2 = .string)
    (hi : P.info? e = some i) (hz : i.zero = some z) (hzs : z.cells.size = i.size) (hby : 0 < i.bytes) {w : World} {v : Value} {n : Nat} {xs : List Value} (hown : OwnR w e i.size v n xs) {x : Value} {m : Nat} {news : List Value}
    (hlen : ∀ w', (Builtin.lenOf x).run P w' = .ok m w') (hfc : ∀ w', w'.heap = w.heap → (Builtin.firstCells i.size m x).run P w' = .ok news.toArray w') (hl : news.length = m * i.size) (h1 : ∀ u ∈ news, u.oneCell' = true)
    (hb : (n + m) * i.bytes ≤ 140737488355328) :
    ∃ v' w', (Builtin.append_ #[t, t2] ty #[v, x]).run P w = .ok v' w' ∧ OwnR w' e i.size v' (n + m) (xs ++ news) ∧ w.grownBy w' v.ownBlock ∧ ∀ b, v'.ownBlock = some b → v.ownBlock = some b ∨ w.heap.size ≤ b := by
  have hsmall : n + m ≤ 140737488355328 := by
    have : (n + m) * 1 ≤ (n + m) * i.bytes := Nat.mul_le_mul_left _ hby
    omega
  have hlen2 : (xs ++ news).length = (n + m) * i.size := by rw [List.length_append, hown.1, hl, Nat.add_mul]
  have grow : ∀ (old : Nat), old < n + m → OwnR (w.drew.alloc (.cells (xs.toArray ++ news.toArray ++ Builtin.zeroCells z.cells (grownCap w (n + m) old e - (n + m))) e)) e i.size (.slice (some ⟨w.heap.size, 0, none⟩) (n + m) (grownCap w (n + m) old e)) (n + m) (xs ++ news) ∧
      w.grownBy (w.drew.alloc (.cells (xs.toArray ++ news.toArray ++ Builtin.zeroCells z.cells (grownCap w (n + m) old e - (n + m))) e)) v.ownBlock := by
    intro old ho
    have hge := grownCap_ge w (n + m) old e
    refine ⟨⟨hlen2, .inr ⟨w.heap.size, _, _, (0, 0), rfl, heap_alloc_new w.drew _, .inl rfl, hge, grownCap_le_maxLen w (n + m) old e (by simp only [maxLen]; omega), ?_, ?_⟩⟩, ⟨rfl, rfl, rfl, by simp, fun k hk _ => (World.grownBy_alloc w.drew _ none).block k hk (by simp)⟩⟩
    · simp only [Array.size_append, List.size_toArray, size_zeroCells, hzs, hown.1, hl, ← Nat.add_mul]
      congr 1
      omega
    · simp only [Array.toList_append, List.append_assoc]
      rw [← List.append_assoc, ← hlen2]
      exact List.take_left
  have hfcw := hfc w rfl
  have hfcd := hfc w.drew rfl
  have h63 : ¬ ((9223372036854775807 : Int) < (n : Int) + (m : Int)) := by omega
  have hcap : ∀ old, old < n + m → ¬ (281474976710656 < Builtin.nextslicecap (n + m) old * i.bytes) := by
    intro old ho
    have := nextslicecap_le (need := n + m) (old := old) ho
    have h2 : Builtin.nextslicecap (n + m) old * i.bytes ≤ 2 * (n + m) * i.bytes := Nat.mul_le_mul_right _ this
    rw [Nat.mul_assoc] at h2
    omega
  rcases hown.2 with ⟨rfl, rfl⟩ | ⟨g, cap, cur, fz, rfl, hg, hfz, hnc, hcm, hcs, htake⟩
  · have hx : xs = [] := List.eq_nil_of_length_eq_zero (by simpa using hown.1)
    subst hx
    by_cases hm : m = 0
    · subst hm
      have hn : news = [] := List.eq_nil_of_length_eq_zero (by simpa using hl)
      subst hn
      refine ⟨.slice none 0 0, w, ?_, ⟨by simp, .inl ⟨rfl, rfl⟩⟩, grown_refl _ _, fun b hb => .inl hb⟩
      rcases hd2 with ⟨e2, rfl⟩ | rfl <;> simp [Builtin.append_, run_underlying ht, run_underlying ht2, sizeOf, typeInfo, hi, hlen, hfcw]
    · obtain ⟨g1, g2⟩ := grow 0 (by omega)
      refine ⟨_, _, ?_, g1, g2, fun b hb => .inr (by simp [Value.ownBlock] at hb; omega)⟩
      have hc0 := hcap 0 (by omega)
      have h63' : ¬ ((9223372036854775807 : Int) < (m : Int)) := by omega
      simp only [Nat.zero_add] at hc0 ⊢
      rcases hd2 with ⟨e2, rfl⟩ | rfl <;> (simp [Builtin.append_, run_underlying ht, run_underlying ht2, sizeOf, typeInfo, zeroValue, hi, hz, hlen, hfcd, hm, h63', hc0, Question.forced, run_firstCells_none, newRow, grownCap])
  · by_cases hroom : n + m ≤ cap
    · have hfit : n * i.size + news.length ≤ cur.size := by rw [hl, hcs, ← Nat.add_mul]; exact Nat.mul_le_mul_right _ hroom
      obtain ⟨w', hst, hgr, hsz, hh⟩ := storeCells_run (P := P) (b := g) (e := e) news (n * i.size) 0 cur w hg hfz (by simpa using hfit) h1
      refine ⟨.slice (some ⟨g, 0, none⟩) (n + m) cap, w', ?_, ⟨hlen2, .inr ⟨g, cap, _, fz, rfl, hh, ?_, hroom, hcm, ?_, ?_⟩⟩, hgr, fun b hb => .inl hb⟩
      · rcases hd2 with ⟨e2, rfl⟩ | rfl <;> simp [Builtin.append_, run_underlying ht, run_underlying ht2, sizeOf, typeInfo, hi, hlen, hroom, hfcw, Addr.add_lit, hst]
      · have : (setMany cur.toList (n * i.size + 0) news).toArray.size = cur.size := by simp [setMany]; omega
        rw [this]; exact hfz
      · have : (setMany cur.toList (n * i.size + 0) news).toArray.size = cur.size := by simp [setMany]; omega
        rw [this]; exact hcs
      · simp only [setMany, Nat.add_zero]
        rw [htake, ← hlen2]
        exact List.take_left
    · obtain ⟨g1, g2⟩ := grow cap (by omega)
      refine ⟨_, _, ?_, g1, g2, fun b hb => .inr (by simp [Value.ownBlock] at hb; omega)⟩
      have hc0 := hcap cap (by omega)
      have hold : (Builtin.firstCells i.size n (.slice (some ⟨g, 0, none⟩) n cap)).run P w.drew = .ok xs.toArray w.drew := by
        have := run_firstCells_some (P := P) w.drew i.size n ⟨g, 0, none⟩ n cap xs hown.1 (fun j u hu => by rw [Addr.add_mid, Nat.zero_add]; exact hown.cells (b := g) rfl hu)
        exact this
      rcases hd2 with ⟨e2, rfl⟩ | rfl <;> (simp [Builtin.append_, run_underlying ht, run_underlying ht2, sizeOf, typeInfo, zeroValue, hi, hz, hlen, hfcd, hold, hroom, h63, hc0, Question.forced, newRow, grownCap]; congr 2; apply Array.ext'; simp [List.append_assoc])

/-- What a slice that is appended to holds. -/
def ownOf (hp : List (Nat × Ct)) (ety sz : Nat) : AV → Option (Nat × (Nat → Nat → DV))
  | .c (.nm id) => match lkH hp id with
    | some (.rows e s n g) => if e = ety ∧ s = sz then some (n, g) else none
    | _ => none
  | .c (.d (.v (.slice none 0 0))) => some (0, fun _ _ => .v undef)
  | _ => none
/-- What is appended. -/
def srcOf (P : Program) (hp : List (Nat × Ct)) (t2 sz : Nat) : AV → Option (Nat × (Nat → Nat → DV))
  | .c (.d (.ro s m g)) => if s = sz then some (m, g) else none
  | .c (.nm id) => match lkH hp id with
    | some (.rows _ s m g) => if s = sz then some (m, g) else none
    | _ => none
  | .c (.d (.v (.slice none 0 0))) => some (0, fun _ _ => .v undef)
  | .c (.d (.v (.string s))) => match P.underlying t2 with
    | some .string => if sz = 1 then some (s.size, fun i _ => .v (.int .u8 (bt s i))) else none
    | _ => none
  | _ => none
def appChk (P : Program) (t t2 ety sz B : Nat) : Bool :=
  match P.underlying t, P.underlying t2, P.info? ety with
  | some (.slice e), some d2, some i => decide (e = ety) && (decide (i.size = sz) && (decide (i.bytes = B) && (decide (0 < B) && (isSrcD d2 && (match i.zero with | some z => decide (z.cells.size = sz) | none => false)))))
  | _, _, _ => false

/-- The cells that a source hands over. -/
theorem src_run {P : Program} {τ S w hp t2 sz a y m gx} (h : srcOf P hp t2 sz a = some (m, gx)) (hH : HP τ S w hp) (hr : RelA τ S w a y) :
    ∃ news : List Value, news.length = m * sz ∧ (∀ i, i < m → ∀ j, j < sz → ∃ u, news[i * sz + j]? = some u ∧ u.oneCell' = true ∧ RelD S w (gx i j) u) ∧ (∀ u ∈ news, u.oneCell' = true) ∧
      (∀ w', (Builtin.lenOf y).run P w' = .ok m w') ∧ (∀ w', w'.heap = w.heap → (Builtin.firstCells sz m y).run P w' = .ok news.toArray w') := by
  -- out of cells that can be read
  have cells : ∀ (m : Nat) (gx : Nat → Nat → DV) (b o c : Nat), (∀ i, i < m → ∀ j, j < sz → ∃ u, w.cell? ⟨b, o + (i * sz + j), none⟩ = some u ∧ u.oneCell' = true ∧ RelD S w (gx i j) u) →
      ∃ news : List Value, news.length = m * sz ∧ (∀ i, i < m → ∀ j, j < sz → ∃ u, news[i * sz + j]? = some u ∧ u.oneCell' = true ∧ RelD S w (gx i j) u) ∧ (∀ u ∈ news, u.oneCell' = true) ∧
        (∀ w', w'.heap = w.heap → (Builtin.firstCells sz m (.slice (some ⟨b, o, none⟩) m c)).run P w' = .ok news.toArray w') := by
    intro m gx b o c hc
    have flat : ∀ k, k < m * sz → ∃ u, w.cell? ⟨b, o + k, none⟩ = some u ∧ u.oneCell' = true := by
      intro k hk
      have hs : 0 < sz := by rcases Nat.eq_zero_or_pos sz with h | h; · subst h; omega
                             · exact h
      obtain ⟨u, h1, h2, _⟩ := hc (k / sz) (by rw [Nat.div_lt_iff_lt_mul hs]; exact hk) (k % sz) (Nat.mod_lt _ hs)
      refine ⟨u, ?_, h2⟩
      rwa [Nat.mul_comm (k / sz) sz, Nat.div_add_mod] at h1
    let f : Nat → Value := fun k => (w.cell? ⟨b, o + k, none⟩).getD undef
    have hf : ∀ k, k < m * sz → w.cell? ⟨b, o + k, none⟩ = some (f k) := by
      intro k hk
      obtain ⟨u, h1, _⟩ := flat k hk
      simp [f, h1]
    refine ⟨(List.range (m * sz)).map f, by simp, fun i hi j hj => ?_, fun u hu => ?_, fun w' hw => ?_⟩
    · obtain ⟨u, h1, h2, h3⟩ := hc i hi j hj
      have hlt : i * sz + j < m * sz := by
        have : (i + 1) * sz ≤ m * sz := Nat.mul_le_mul_right _ hi
        rw [Nat.add_mul, Nat.one_mul] at this
        omega
      refine ⟨u, ?_, h2, h3⟩
      rw [List.getElem?_map, List.getElem?_range hlt]
      have := hf _ hlt
      rw [h1] at this
      simpa using this.symm
    · obtain ⟨k, hk, rfl⟩ := List.mem_map.1 hu
      have hk' : k < m * sz := by simpa using hk
      obtain ⟨u, h1, h2⟩ := flat k hk'
      have := hf k hk'
      rw [h1] at this
      simp only [Option.some.injEq] at this
      rw [← this]; exact h2
    · refine run_firstCells_some (P := P) w' sz m ⟨b, o, none⟩ m c _ (by simp) (fun j u hu => ?_)
      rw [Addr.add_mid]
      have hj : j < m * sz := by have := (List.getElem?_eq_some_iff.1 hu).1; simpa using this
      rw [List.getElem?_map, List.getElem?_range hj] at hu
      simp only [Option.map_some, Option.some.injEq] at hu
      subst hu
      rw [show w'.cell? ⟨b, o + j, none⟩ = w.cell? ⟨b, o + j, none⟩ from by simp [World.cell?, hw]]
      exact hf j hj
  unfold srcOf at h
  split at h
  · rename_i s m' g
    split at h
    · rename_i hs
      subst hs
      simp only [Option.some.injEq, Prod.mk.injEq] at h
      obtain ⟨rfl, rfl⟩ := h
      obtain ⟨a, c, rfl, hc, hcell⟩ := hr
      rcases Nat.eq_zero_or_pos m' with rfl | hm
      · refine ⟨[], by simp, fun i hi => absurd hi (by omega), fun u hu => (by cases hu), fun w' => by simp [Builtin.lenOf], fun w' _ => ?_⟩
        cases a with
        | none => simp [Builtin.firstCells]
        | some ad => simp [Builtin.firstCells, loadCells, loadCellsFrom]
      · obtain ⟨b, o, rfl, _, hcell⟩ := hcell hm
        obtain ⟨news, h1, h2, h3, h4⟩ := cells m' g b o c hcell
        exact ⟨news, h1, h2, h3, fun w' => by simp [Builtin.lenOf], h4⟩
    · cases h
  · rename_i id
    split at h
    · rename_i e s m' g hl
      split at h
      · rename_i hs
        subst hs
        simp only [Option.some.injEq, Prod.mk.injEq] at h
        obtain ⟨rfl, rfl⟩ := h
        obtain ⟨xs, hown, hcell⟩ := hH.rows hl
        have hy : y = τ id := hr
        rcases hown.2 with ⟨hnil, rfl⟩ | ⟨b, cap, cur, fz, hb, hg, _⟩
        · rw [hy, hnil]
          exact ⟨[], by simp, fun i hi => absurd hi (by omega), fun u hu => (by cases hu), fun w' => by simp [Builtin.lenOf], fun w' _ => by simp [Builtin.firstCells]⟩
        · obtain ⟨news, h1, h2, h3, h4⟩ := cells m' g b 0 cap (fun i hi j hj => by
            obtain ⟨u, h1, h2, h3⟩ := hcell i hi j hj
            exact ⟨u, by rw [Nat.zero_add]; exact owns_cell hown (by rw [hb]; rfl) h1, h2, h3⟩)
          rw [hy, hb]
          exact ⟨news, h1, h2, h3, fun w' => by simp [Builtin.lenOf], h4⟩
      · cases h
    · cases h
  · simp only [Option.some.injEq, Prod.mk.injEq] at h
    obtain ⟨rfl, rfl⟩ := h
    have hy : y = .slice none 0 0 := hr
    subst hy
    exact ⟨[], by simp, fun i hi => absurd hi (by omega), fun u hu => (by cases hu), fun w' => by simp [Builtin.lenOf], fun w' _ => by simp [Builtin.firstCells]⟩
  · rename_i s
    split at h
    · split at h
      · rename_i hs
        subst hs
        simp only [Option.some.injEq, Prod.mk.injEq] at h
        obtain ⟨rfl, rfl⟩ := h
        have hy : y = .string s := hr
        subst hy
        refine ⟨s.data.toList.map fun b => .int .u8 b.toNat, by simp, fun i hi j hj => ?_, fun u hu => ?_, fun w' => by simp [Builtin.lenOf], fun w' _ => ?_⟩
        · obtain rfl : j = 0 := by omega
          have hi' : i < s.data.toList.length := by simpa using hi
          refine ⟨.int .u8 (s.data.toList[i].toNat : Int), by simp [List.getElem?_map, List.getElem?_eq_getElem hi'], rfl, ?_⟩
          show _ = _
          congr 1
          simp only [bt, Int.toNat_natCast, List.getD_eq_getElem?_getD, List.getElem?_eq_getElem hi', Option.getD_some]
        · obtain ⟨b, _, rfl⟩ := List.mem_map.1 hu
          rfl
        · simp only [Builtin.firstCells, Sem.run_pure]
          congr 1
          apply Array.ext'
          simp
      · cases h
    · cases h
  · cases h

theorem own_run {τ S w hp ety sz a y n g} (h : ownOf hp ety sz a = some (n, g)) (hH : HP τ S w hp) (hr : RelA τ S w a y) :
    ∃ xs, OwnR w ety sz y n xs ∧ ∀ i, i < n → ∀ j, j < sz → ∃ u, xs[i * sz + j]? = some u ∧ u.oneCell' = true ∧ RelD S w (g i j) u := by
  unfold ownOf at h
  split at h
  · rename_i id
    split at h
    · rename_i e s n' g' hl
      split at h
      · rename_i hc
        obtain ⟨rfl, rfl⟩ := hc
        simp only [Option.some.injEq, Prod.mk.injEq] at h
        obtain ⟨rfl, rfl⟩ := h
        have hy : y = τ id := hr
        rw [hy]
        exact hH.rows hl
      · cases h
    · cases h
  · simp only [Option.some.injEq, Prod.mk.injEq] at h
    obtain ⟨rfl, rfl⟩ := h
    have hy : y = .slice none 0 0 := hr
    subst hy
    exact ⟨[], ⟨by simp, .inl ⟨rfl, rfl⟩⟩, fun i hi => absurd hi (by omega)⟩
  · cases h

def delS (hp : List (Nat × Ct)) : AV → List (Nat × Ct)
  | .c (.nm id) => del hp id
  | _ => hp

/-- append(s, x...): the result is a new name; s is no name any more. -/
theorem WO.append {P : Program} {N : Nat} {ops : Array Oper} {i : Nat} {l : List Nat} {st : ASt} {Q : Exit → ASt → Prop} {o : Oper} {c : Call} {s x : Operand} {t t2 ety sz B n m n' : Nat} {g gx g' : Nat → Nat → DV} (id : Nat)
    (ho : ops[i]? = some o) (hop : o.op = .call c) (hcal : c.callee = .builtin .append) (hargs : c.args.toList = [s, x]) (htys : c.argTypes.toList = [t, t2]) (hgd : o.guard = none)
    (hs : ownOf st.hp ety sz (opA st.fr s) = some (n, g)) (hx : srcOf P st.hp t2 sz (opA st.fr x) = some (m, gx))
    (hchk : (appChk P t t2 ety sz B && (decide (newId ≤ id) && (frFresh id st.fr && (hpFresh id st.hp && dstOk N o.dst)))) = true)
    (hb : (n + m) * B ≤ 140737488355328) (hn : n' = n + m) (hg1 : ∀ i, i < n → ∀ j, j < sz → g' i j = g i j) (hg2 : ∀ i, i < m → ∀ j, j < sz → g' (n + i) j = gx i j)
    (k : WO P N ops l ⟨putF st.fr o.dst (.c (.nm id)), (id, .rows ety sz n' g') :: delS st.hp (opA st.fr s)⟩ Q) : WO P N ops (i :: l) st Q := by
  subst hn
  simp only [Bool.and_eq_true, decide_eq_true_eq] at hchk
  obtain ⟨ha, hid, hf, hf', hd⟩ := hchk
  unfold appChk at ha
  split at ha
  case h_2 => cases ha
  rename_i e d2 ii hut hut2 hie
  simp only [Bool.and_eq_true, decide_eq_true_eq] at ha
  obtain ⟨rfl, hsz, hB, hB0, hd2, hz⟩ := ha
  cases hzz : ii.zero with
  | none => simp [hzz] at hz
  | some z =>
    simp only [hzz, decide_eq_true_eq] at hz
    subst hsz hB
    intro E τ S a w hE h
    have hw : Region.wanted o (yielded ops a.tmps) = true := by simp [Region.wanted, hgd]
    obtain ⟨xs, hown, hxc⟩ := own_run hs h.hp (h.opA s)
    obtain ⟨news, hl, hnc, h1, hlen, hfc⟩ := src_run hx h.hp (h.opA x)
    obtain ⟨v', w', hrun, hown', hgr, hblk⟩ := append_run (P := P) (ty := o.type) hut hut2 (isSrcD_or hd2) hie hzz hz hB0 hown hlen hfc hl h1 hb
    have ea : c.args = #[s, x] := by apply Array.ext'; simpa using hargs
    have et : c.argTypes = #[t, t2] := by apply Array.ext'; simpa using htys
    refine wpOps_do ho hw (y := v') (w' := w') ?_ ?_
    · simp [execOp, hop, resolve, hcal, ea, et, invoke, builtin, hrun]
    · have hnsS : ∀ b, (a.eval s).ownBlock = some b → ¬ S b := by
        intro b hb' hS
        unfold ownOf at hs
        split at hs
        · rename_i id0 hop0
          split at hs
          · rename_i e0 s0 n0 g0 hl0
            have hy : a.eval s = τ id0 := by have := h.opA s; rw [hop0] at this; exact this
            rw [hy] at hb'
            exact h.hp.ss b hS _ (lkH_mem hl0) hb'
          · cases hs
        · rename_i hop0
          have hy : a.eval s = .slice none 0 0 := by have := h.opA s; rw [hop0] at this; exact this
          rw [hy] at hb'; simp [Value.ownBlock] at hb'
        · cases hs
      have hstay : ∀ τ', Stays τ τ' S S w w' := fun τ' => stays_of hgr (fun _ h => h) h.hp.s hnsS
      have hct : ∀ τ', RelCt τ' S w' v' (.rows e ii.size (n + m) g') := by
        intro τ'
        refine ⟨xs ++ news, hown', fun i hi j hj => ?_⟩
        by_cases hin : i < n
        · obtain ⟨u, hu1, hu2, hu3⟩ := hxc i hin j hj
          have hlt : i * ii.size + j < xs.length := (List.getElem?_eq_some_iff.1 hu1).1
          refine ⟨u, by rw [List.getElem?_append_left hlt]; exact hu1, hu2, ?_⟩
          rw [hg1 i hin j hj]
          exact RelD.mono (fun _ h => h) (hstay τ).h _ _ hu3
        · obtain ⟨k, rfl⟩ : ∃ k, i = n + k := ⟨i - n, by omega⟩
          obtain ⟨u, hu1, hu2, hu3⟩ := hnc k (by omega) j hj
          refine ⟨u, ?_, hu2, ?_⟩
          · rw [List.getElem?_append_right (by rw [hown.1, Nat.add_mul]; omega), hown.1, Nat.add_mul, show n * ii.size + k * ii.size + j - n * ii.size = k * ii.size + j from by omega]
            exact hu1
          · rw [hg2 k (by omega) j hj]
            exact RelD.mono (fun _ h => h) (hstay τ).h _ _ hu3
      unfold ownOf at hs
      split at hs
      · rename_i id0 hop0
        split at hs
        · rename_i e0 s0 n0 g0 hl0
          have hy : a.eval s = τ id0 := by have := h.opA s; rw [hop0] at this; exact this
          have hc := h.swap (id' := id) (ct' := .rows e ii.size (n + m) g') (w' := w') (v := v') hl0 hid hf hf' (by rw [← hy]; exact hgr) (fun b hb => by rw [← hy]; exact hblk b hb) (hct _)
          rw [hop0] at k
          exact k E _ S _ w' hE (hc.put (hE ▸ dst_lt hd) (show v' = upd τ id v' id by simp [upd]))
        · cases hs
      · rename_i hop0
        have hy : a.eval s = .slice none 0 0 := by have := h.opA s; rw [hop0] at this; exact this
        rw [hy] at hgr hblk
        have hc := h.fresh (id := id) (ct := .rows e ii.size (n + m) g') (w' := w') (v := v') hid hf hf' hgr (fun b hb => (hblk b hb).resolve_left (by simp [Value.ownBlock])) (hct _)
        rw [hop0] at k
        exact k E _ S _ w' hE (hc.put (hE ▸ dst_lt hd) (show v' = upd τ id v' id by simp [upd]))
      · cases hs

/-! ### Typed rows -/
theorem gT_left {α : Type} [Inhabited α] {f : α → Nat → DV} {l l2 : List α} (i : Nat) (hi : i < l.length) (j : Nat) : gT f (l ++ l2) i j = gT f l i j := by
  simp [gT, List.getD_eq_getElem?_getD, List.getElem?_append_left hi]
theorem gT_right {α : Type} [Inhabited α] {f : α → Nat → DV} {l l2 : List α} (i : Nat) (j : Nat) : gT f (l ++ l2) (l.length + i) j = gT f l2 i j := by
  simp [gT, List.getD_eq_getElem?_getD, List.getElem?_append_right]
/-- Equal cells, told by two lists. -/
theorem cells_eq {sz : Nat} {p q : Nat → DV} (h : (List.range sz).map p = (List.range sz).map q) : ∀ j, j < sz → p j = q j := by
  intro j hj
  have := congrArg (fun l => l[j]?) h
  simpa [List.getElem?_map, List.getElem?_range hj] using this
theorem one_eq {α : Type} [Inhabited α] {sz : Nat} {f : α → Nat → DV} {l : List α} {x : α} {gx : Nat → Nat → DV} (h : (List.range sz).map (gx 0) = (List.range sz).map (f x)) : ∀ i, i < 1 → ∀ j, j < sz → gT f (l ++ [x]) (l.length + i) j = gx i j := by
  intro i hi j hj
  obtain rfl : i = 0 := by omega
  rw [cells_eq h j hj]
  simp [gT]

/-- A list appended. -/
theorem WO.appL {P : Program} {N : Nat} {ops : Array Oper} {i : Nat} {l : List Nat} {st : ASt} {Q : Exit → ASt → Prop} {o : Oper} {c : Call} {s x : Operand} {t t2 ety sz B : Nat} {α : Type} [Inhabited α] (f : α → Nat → DV) {L L2 : List α} {g gx : Nat → Nat → DV} (id : Nat)
    (ho : ops[i]? = some o) (hop : o.op = .call c) (hcal : c.callee = .builtin .append) (hargs : c.args.toList = [s, x]) (htys : c.argTypes.toList = [t, t2]) (hgd : o.guard = none)
    (hs : ownOf st.hp ety sz (opA st.fr s) = some (L.length, g)) (hgl : L = [] ∨ g = gT f L) (hx : srcOf P st.hp t2 sz (opA st.fr x) = some (L2.length, gx)) (hgx : ∀ i, i < L2.length → ∀ j, j < sz → gT f L2 i j = gx i j)
    (hchk : (appChk P t t2 ety sz B && (decide (newId ≤ id) && (frFresh id st.fr && (hpFresh id st.hp && dstOk N o.dst)))) = true)
    (hb : (L.length + L2.length) * B ≤ 140737488355328)
    (k : WO P N ops l ⟨putF st.fr o.dst (.c (.nm id)), (id, .rows ety sz (L ++ L2).length (gT f (L ++ L2))) :: delS st.hp (opA st.fr s)⟩ Q) : WO P N ops (i :: l) st Q := by
  refine WO.append id ho hop hcal hargs htys hgd hs hx hchk hb (by simp) ?_ ?_ k
  · intro i hi j _
    rcases hgl with rfl | rfl
    · simp at hi
    · exact gT_left i hi j
  · intro i hi j hj
    rw [gT_right]
    exact hgx i hi j hj
/-- One element appended, out of a slice literal. -/
theorem WO.app1 {P : Program} {N : Nat} {ops : Array Oper} {i : Nat} {l : List Nat} {st : ASt} {Q : Exit → ASt → Prop} {o : Oper} {c : Call} {s x : Operand} {t t2 ety sz B : Nat} {α : Type} [Inhabited α] (f : α → Nat → DV) {L : List α} (y : α) {g gx : Nat → Nat → DV} (id : Nat)
    (ho : ops[i]? = some o) (hop : o.op = .call c) (hcal : c.callee = .builtin .append) (hargs : c.args.toList = [s, x]) (htys : c.argTypes.toList = [t, t2]) (hgd : o.guard = none)
    (hs : ownOf st.hp ety sz (opA st.fr s) = some (L.length, g)) (hgl : L = [] ∨ g = gT f L) (hx : srcOf P st.hp t2 sz (opA st.fr x) = some (1, gx)) (hgx : (List.range sz).map (gx 0) = (List.range sz).map (f y))
    (hchk : (appChk P t t2 ety sz B && (decide (newId ≤ id) && (frFresh id st.fr && (hpFresh id st.hp && dstOk N o.dst)))) = true)
    (hb : (L.length + 1) * B ≤ 140737488355328)
    (k : WO P N ops l ⟨putF st.fr o.dst (.c (.nm id)), (id, .rows ety sz (L ++ [y]).length (gT f (L ++ [y]))) :: delS st.hp (opA st.fr s)⟩ Q) : WO P N ops (i :: l) st Q := by
  refine WO.append id ho hop hcal hargs htys hgd hs hx hchk hb (by simp) ?_ (one_eq hgx) k
  intro i hi j _
  rcases hgl with rfl | rfl
  · simp at hi
  · exact gT_left i hi j

end Go.Abs
