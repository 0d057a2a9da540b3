/- DERIVED. Own theory, part 5: memory that is made and written. -/
import Derived.Test.YtlhiaclmbegaiaaGreatA4
import Derived.Laws.AppendOwn
set_option linter.unusedVariables false
set_option linter.unusedSimpArgs false
namespace Go.Abs

def upd (τ : Nat → Value) (id : Nat) (v : Value) : Nat → Value := fun i => if i = id then v else τ i
theorem upd_same (τ id v) : upd τ id v id = v := by simp [upd]
theorem upd_ne {τ : Nat → Value} {id i : Nat} {v} (h : i ≠ id) : upd τ id v i = τ i := by simp [upd, h]

def frFresh (id : Nat) : List (Nat × AV) → Bool
  | [] => true
  | p :: r => !p.2.has id && frFresh id r
def hpFresh (id : Nat) : List (Nat × Ct) → Bool
  | [] => true
  | p :: r => p.1 != id && !p.2.has id && hpFresh id r
theorem frFresh_spec {id : Nat} : ∀ {l : List (Nat × AV)}, frFresh id l = true → ∀ p ∈ l, p.2.has id = false
  | [], _, p, hp => by cases hp
  | q :: r, h, p, hp => by
    simp only [frFresh, Bool.and_eq_true, Bool.not_eq_true'] at h
    rcases List.mem_cons.1 hp with rfl | hp
    · exact h.1
    · exact frFresh_spec h.2 p hp
theorem hpFresh_spec {id : Nat} : ∀ {l : List (Nat × Ct)}, hpFresh id l = true → ∀ p ∈ l, p.1 ≠ id ∧ p.2.has id = false
  | [], _, p, hp => by cases hp
  | q :: r, h, p, hp => by
    simp only [hpFresh, Bool.and_eq_true, Bool.not_eq_true', bne_iff_ne] at h
    rcases List.mem_cons.1 hp with rfl | hp
    · exact h.1
    · exact hpFresh_spec h.2 p hp

theorem Keep.grown {w0 w w' : World} {O : Nat → Prop} {row : Option Nat} (h : Keep w0 O w) (hg : w.grownBy w' row) (hr : ∀ b, row = some b → O b ∨ w0.heap.size ≤ b) : Keep w0 O w' :=
  ⟨hg.os.trans h.os, hg.tape.trans h.tape, hg.output.trans h.output, Nat.le_trans h.size hg.size, fun b hb hO =>
    (hg.block b (Nat.lt_of_lt_of_le hb h.size) (fun e => by rcases hr b e.symm with h1 | h1 <;> first | exact hO h1 | omega)).trans (h.block b hb hO)⟩

theorem stays_of {τ τ' : Nat → Value} {S S' : Nat → Prop} {w w' : World} {row : Option Nat} (hg : w.grownBy w' row) (hS : ∀ b, S b → S' b) (hlt : ∀ b, S b → b < w.heap.size) (hr : ∀ b, row = some b → ¬ S b) : Stays τ τ' S S' w w' :=
  ⟨hS, fun b hb => hg.block b (hlt b hb) (fun e => hr b e.symm hb)⟩

/-- Memory has moved on: the frame's values stand. -/
theorem Cfg.move {E τ S st a w} (h : Cfg E τ S st a w) {τ' : Nat → Value} {S' : Nat → Prop} {w' : World} {row : Option Nat} {hp' : List (Nat × Ct)}
    (hg : w.grownBy w' row) (hS : ∀ b, S b → S' b) (hS' : ∀ b, S' b → S b ∨ E.O b ∨ E.w0.heap.size ≤ b) (hr : ∀ b, row = some b → ¬ S b ∧ (E.O b ∨ E.w0.heap.size ≤ b))
    (hfr : ∀ p ∈ st.fr, ∀ id, p.2.has id = true → τ' id = τ id) (hH : HP τ' S' w' hp') (hown : ∀ p ∈ hp', ∀ b, (τ' p.1).ownBlock = some b → E.O b ∨ E.w0.heap.size ≤ b)
    (hbase : ∀ id, id < newId → τ' id = τ id) : Cfg E τ' S' ⟨st.fr, hp'⟩ a w' := by
  have hst : Stays τ τ' S S' w w' := stays_of hg hS h.hp.s (fun b hb => (hr b hb).1)
  exact ⟨h.df, h.sz, fun p hp => let ⟨y, h1, h2⟩ := h.fr p hp; ⟨y, h1, h2.mono hst (hfr p hp)⟩, hH, hown,
    fun b hb => (hS' b hb).elim (h.so b) (fun x => .inr x), h.keep.grown hg fun b hb => (hr b hb).2, fun id hid => (hbase id hid).trans (h.base id hid)⟩

theorem setCell_grown (w : World) (b o : Nat) (v : Value) : w.grownBy (w.setCell ⟨b, o, none⟩ v) (some b) :=
  ⟨rfl, rfl, rfl, by simp, fun k hk hne => by simp only [World.setCell, Array.getElem?_modify]; rw [if_neg (fun e => hne (by rw [e]))]⟩

theorem grown_trans {w w1 w2 : World} {row : Option Nat} (h1 : w.grownBy w1 row) (h2 : w1.grownBy w2 row) : w.grownBy w2 row :=
  ⟨h2.os.trans h1.os, h2.tape.trans h1.tape, h2.output.trans h1.output, Nat.le_trans h1.size h2.size, fun k hk hne => (h2.block k (Nat.lt_of_lt_of_le hk h1.size) hne).trans (h1.block k hk hne)⟩
theorem grown_refl (w : World) (row : Option Nat) : w.grownBy w row := ⟨rfl, rfl, rfl, Nat.le_refl _, fun _ _ _ => rfl⟩

/-- Several cells of one block are stored. -/
theorem storeCells_run {P : Program} {b : Nat} {e : Nat} {fz : Nat × Nat} : ∀ (vs : List Value) (o i : Nat) (us : Array Value) (w : World), w.heap[b]? = some (.cells us e fz) → okFz fz us.size → o + i + vs.length ≤ us.size → (∀ v ∈ vs, v.oneCell' = true) →
    ∃ w', (storeCells ⟨b, o, none⟩ vs i).run P w = .ok () w' ∧ w.grownBy w' (some b) ∧ w'.heap.size = w.heap.size ∧ w'.heap[b]? = some (.cells (setMany us.toList (o + i) vs).toArray e fz)
  | [], o, i, us, w, hw, _, _, _ => ⟨w, by simp [storeCells], grown_refl _ _, rfl, by simp [setMany, hw]⟩
  | v :: vs, o, i, us, w, hw, hfz0, hle, h1 => by
    simp only [List.length_cons] at hle
    have hcell : w.cell? ⟨b, o + i, none⟩ = some us[o + i] := by rw [cell_of_heap hw]; simp
    have hfz : w.frozen? ⟨b, o + i, none⟩ = false := by
      obtain ⟨lo, hi⟩ := fz
      simp only [World.frozen?, hw, Bool.and_eq_false_iff, decide_eq_false_iff_not]
      rcases hfz0 with h | h <;> simp only at h <;> omega
    have hst : (store ⟨b, o + i, none⟩ v).run P w = .ok () (w.setCell ⟨b, o + i, none⟩ v) := by
      rw [run_store P w ⟨b, o + i, none⟩ v .plain (h1 v (by simp))]
      simp [hcell, hfz]
    have hw' : (w.setCell ⟨b, o + i, none⟩ v).heap[b]? = some (.cells (us.setIfInBounds (o + i) v) e fz) := by
      simp [World.setCell, Array.getElem?_modify, hw]
    obtain ⟨w2, hr, hg, hsz, hh⟩ := storeCells_run (P := P) vs o (i + 1) (us.setIfInBounds (o + i) v) (w.setCell ⟨b, o + i, none⟩ v) hw' (by simpa using hfz0) (by simp; omega) (fun u hu => h1 u (List.mem_cons_of_mem _ hu))
    refine ⟨w2, ?_, grown_trans (setCell_grown w b (o + i) v) hg, by rw [hsz]; simp, ?_⟩
    · simp only [storeCells, Sem.run_bind, Addr.add_mid, hst, Result.andThen_ok]
      exact hr
    · rw [hh]
      congr 2
      simp only [Array.toList_setIfInBounds, setMany, List.length_cons]
      rw [show o + (i + 1) = o + i + 1 from by omega, List.take_set, List.drop_set_of_lt (by omega)]
      rw [List.take_succ_eq_append_getElem (by simp; omega), List.set_append_right _ _ (by simp; omega)]
      simp only [List.length_take, Array.length_toList]
      rw [show min (o + i) us.size = o + i from by omega, Nat.sub_self]
      simp only [List.set_cons_zero, List.append_assoc, List.singleton_append]
      rw [show o + i + 1 + vs.length = o + i + (vs.length + 1) from by omega]

theorem storeVar_run {P : Program} {b o t e : Nat} {fz : Nat × Nat} {y : Value} {us : Array Value} {w : World} (hw : w.heap[b]? = some (.cells us e fz)) (hfz : okFz fz us.size) (hs : (P.info? t).map (·.size) = some y.cells.size)
    (hle : o + y.cells.size ≤ us.size) (h1 : ∀ v ∈ y.cells.toList, v.oneCell' = true) :
    ∃ w', (storeVar t ⟨b, o, none⟩ y).run P w = .ok () w' ∧ w.grownBy w' (some b) ∧ w'.heap.size = w.heap.size ∧ w'.heap[b]? = some (.cells (setMany us.toList o y.cells.toList).toArray e fz) := by
  obtain ⟨w', h, h2, h3, h4⟩ := storeCells_run (P := P) y.cells.toList o 0 us w hw hfz (by simpa using hle) h1
  cases hi : P.info? t with
  | none => simp [hi] at hs
  | some i =>
    simp [hi] at hs
    refine ⟨w', ?_, h2, h3, by simpa using h4⟩
    simp [storeVar, sizeOf, typeInfo, hi, hs, h]

theorem RelCs.ones {τ S w} : ∀ {cs : List C} {us : List Value}, RelCs τ S w cs us → ∀ v ∈ us, v.oneCell' = true
  | [], [], _, v, hv => by cases hv
  | [], _ :: _, h, _, _ => h.elim
  | _ :: _, [], h, _, _ => h.elim
  | _ :: _, u :: us, ⟨h1, h2⟩, v, hv => by
    rcases List.mem_cons.1 hv with rfl | hv
    · exact h1.1
    · exact h2.ones v hv

theorem pairwise_two {α : Type} {R : α → α → Prop} : ∀ {l : List α}, l.Pairwise R → ∀ {p q}, p ∈ l → q ∈ l → p ≠ q → R p q ∨ R q p
  | [], _, _, _, hp, _, _ => by cases hp
  | x :: r, h, p, q, hp, hq, hne => by
    have h2 := List.pairwise_cons.1 h
    rcases List.mem_cons.1 hp with e1 | hp1
    · rcases List.mem_cons.1 hq with e2 | hq1
      · exact absurd (e1.trans e2.symm) hne
      · rw [e1]; exact .inl (h2.1 q hq1)
    · rcases List.mem_cons.1 hq with e2 | hq1
      · rw [e2]; exact .inr (h2.1 p hp1)
      · exact pairwise_two h2.2 hp1 hq1 hne
theorem HP.apart {τ S w hp} (h : HP τ S w hp) {p q : Nat × Ct} (hp' : p ∈ hp) (hq : q ∈ hp) (hne : p.1 ≠ q.1) (b : Nat) (hb : (τ p.1).ownBlock = some b) : (τ q.1).ownBlock ≠ some b := by
  intro hb'
  rcases pairwise_two h.sep hp' hq (fun e => hne (by rw [e])) with h1 | h1
  · exact h1.2 b hb hb'
  · exact h1.2 b hb' hb

/-- What stands of the named blocks when the block of one of them (row) is written. -/
theorem HP.keepOthers {τ τ' S S' w w' hp} (h : HP τ S w hp) {row : Option Nat} (hg : w.grownBy w' row) (hS : ∀ b, S b → S' b) (hr : ∀ b, row = some b → ¬ S b) {p : Nat × Ct} (hp : p ∈ hp)
    (hne : ∀ b, (τ p.1).ownBlock = some b → row ≠ some b) (hτ : τ' p.1 = τ p.1) (hn : ∀ id, p.2.has id = true → τ' id = τ id) : RelCt τ' S' w' (τ' p.1) p.2 := by
  rw [hτ]
  exact (h.ct p hp).mono (stays_of hg hS h.s hr) hn fun b hb => hg.block b ((h.ct p hp).lt b hb) (fun e => hne b hb e.symm)

def setHp (hp : List (Nat × Ct)) (id : Nat) (c : Ct) : List (Nat × Ct) :=
  match hp with
  | [] => []
  | (k, v) :: r => if k = id then (k, c) :: r else (k, v) :: setHp r id c
theorem mem_setHp : ∀ {hp : List (Nat × Ct)} {id : Nat} {c : Ct} {p : Nat × Ct}, hp.Pairwise (fun p q => p.1 ≠ q.1) → p ∈ setHp hp id c → (p = (id, c) ∧ ∃ c', (id, c') ∈ hp) ∨ (p ∈ hp ∧ p.1 ≠ id)
  | [], _, _, _, _, h => by cases h
  | (k, v) :: r, id, c, p, hpw, h => by
    unfold setHp at h
    have hpw' := List.pairwise_cons.1 hpw
    by_cases hk : k = id
    · subst hk
      simp only [if_true, List.mem_cons] at h
      rcases h with rfl | h
      · exact .inl ⟨rfl, v, by simp⟩
      · exact .inr ⟨List.mem_cons_of_mem _ h, (hpw'.1 p h).symm⟩
    · simp only [hk, if_false, List.mem_cons] at h
      rcases h with rfl | h
      · exact .inr ⟨by simp, hk⟩
      · rcases mem_setHp hpw'.2 h with ⟨rfl, c', hc⟩ | ⟨h1, h2⟩
        · exact .inl ⟨rfl, c', List.mem_cons_of_mem _ hc⟩
        · exact .inr ⟨List.mem_cons_of_mem _ h1, h2⟩
theorem setHp_keys : ∀ {hp : List (Nat × Ct)} {id : Nat} {c : Ct}, (setHp hp id c).map (·.1) = hp.map (·.1)
  | [], _, _ => rfl
  | (k, v) :: r, id, c => by
    unfold setHp
    by_cases hk : k = id <;> simp [hk, setHp_keys (hp := r)]
theorem pairwise_keys {α β : Type} {R : Nat → Nat → Prop} {l : List (Nat × α)} {m : List (Nat × β)} (hk : l.map (·.1) = m.map (·.1)) (h : l.Pairwise fun p q => R p.1 q.1) : m.Pairwise fun p q => R p.1 q.1 := by
  have : (l.map (·.1)).Pairwise R := List.pairwise_map.2 h
  rw [hk] at this
  exact List.pairwise_map.1 this

/-- A block that is named is written, under the same name. -/
theorem Cfg.write {E τ S st a w} (h : Cfg E τ S st a w) {id : Nat} {ct ct' : Ct} (hl : lkH st.hp id = some ct) {w' : World} {b : Nat} (hb : (τ id).ownBlock = some b) (hg : w.grownBy w' (some b))
    (hct : RelCt τ S w' (τ id) ct') : Cfg E τ S ⟨st.fr, setHp st.hp id ct'⟩ a w' := by
  have hm := lkH_mem hl
  have hpw : st.hp.Pairwise (fun p q => p.1 ≠ q.1) := h.hp.sep.imp fun h => h.1
  have hns : ¬ S b := fun hs => h.hp.ss b hs _ hm hb
  refine h.move hg (fun _ h => h) (fun b hb => .inl hb) (fun b' hb' => by cases hb'; exact ⟨hns, h.own _ hm b hb⟩) (fun _ _ _ _ => rfl) ?_ ?_ (fun _ _ => rfl)
  · refine ⟨fun p hp => ?_, ?_, fun b' hb' => Nat.lt_of_lt_of_le (h.hp.s b' hb') hg.size, fun b' hb' p hp => ?_⟩
    · rcases mem_setHp hpw hp with ⟨rfl, _⟩ | ⟨h1, h2⟩
      · exact hct
      · refine h.hp.keepOthers hg (fun _ h => h) (fun b' hb' => by cases hb'; exact hns) h1 (fun b' hb' he => ?_) rfl (fun _ _ => rfl)
        cases he
        exact h.hp.apart h1 hm h2 b hb' hb
    · exact pairwise_keys (R := fun i j => i ≠ j ∧ ∀ b, (τ i).ownBlock = some b → (τ j).ownBlock ≠ some b) setHp_keys.symm h.hp.sep
    · rcases mem_setHp hpw hp with ⟨rfl, _⟩ | ⟨h1, h2⟩
      · exact h.hp.ss b' hb' (id, ct) hm
      · exact h.hp.ss b' hb' p h1
  · intro p hp b' hb'
    rcases mem_setHp hpw hp with ⟨rfl, _⟩ | ⟨h1, h2⟩
    · exact h.own _ hm b' hb'
    · exact h.own p h1 b' hb'

/-- A block of the call's own comes new, under a new name. -/
theorem Cfg.fresh {E τ S st a w} (h : Cfg E τ S st a w) {id : Nat} {ct : Ct} {w' : World} {v : Value} (hid : newId ≤ id) (hf : frFresh id st.fr = true) (hf' : hpFresh id st.hp = true) (hg : w.grownBy w' none)
    (hv : ∀ b, v.ownBlock = some b → w.heap.size ≤ b) (hct : RelCt (upd τ id v) S w' v ct) : Cfg E (upd τ id v) S ⟨st.fr, (id, ct) :: st.hp⟩ a w' := by
  have hne : ∀ p ∈ st.hp, p.1 ≠ id := fun p hp => (hpFresh_spec hf' p hp).1
  refine h.move hg (fun _ h => h) (fun b hb => .inl hb) (fun b hb => by cases hb) (fun p hp i hi => ?_) ?_ ?_ (fun i hi => upd_ne (by omega))
  · exact upd_ne fun e => by subst e; rw [frFresh_spec hf p hp] at hi; cases hi
  · refine ⟨fun p hp => ?_, ?_, fun b hb => Nat.lt_of_lt_of_le (h.hp.s b hb) hg.size, fun b hb p hp => ?_⟩
    · rcases List.mem_cons.1 hp with rfl | hp1
      · simp only [upd_same]; exact hct
      · exact h.hp.keepOthers hg (fun _ h => h) (fun b hb => by cases hb) hp1 (fun b hb e => by cases e) (upd_ne (hne p hp1)) (fun i hi => upd_ne fun e => by subst e; rw [(hpFresh_spec hf' p hp1).2] at hi; cases hi)
    · refine List.pairwise_cons.2 ⟨fun p hp => ⟨(hne p hp).symm, fun b hb => ?_⟩, ?_⟩
      · simp only [upd_same] at hb
        rw [upd_ne (hne p hp)]
        intro hb'
        have := hv b hb
        have := (h.hp.ct p hp).lt b hb'
        omega
      · refine List.Pairwise.imp_of_mem ?_ h.hp.sep
        intro p q hp hq hpq
        rw [upd_ne (hne p hp), upd_ne (hne q hq)]
        exact hpq
    · rcases List.mem_cons.1 hp with rfl | hp
      · simp only [upd_same]
        intro hb'
        have := hv b hb'
        have := h.hp.s b hb
        omega
      · rw [upd_ne (hne p hp)]; exact h.hp.ss b hb p hp
  · intro p hp b hb
    rcases List.mem_cons.1 hp with rfl | hp
    · simp only [upd_same] at hb
      exact .inr (Nat.le_trans h.keep.size (hv b hb))
    · rw [upd_ne (hne p hp)] at hb; exact h.own p hp b hb

/-- The block of one name goes over, perhaps grown elsewhere, to a new name. -/
theorem Cfg.swap {E τ S st a w} (h : Cfg E τ S st a w) {id id' : Nat} {ct ct' : Ct} {w' : World} {v : Value} (hl : lkH st.hp id = some ct) (hid : newId ≤ id') (hf : frFresh id' st.fr = true) (hf' : hpFresh id' st.hp = true)
    (hg : w.grownBy w' (τ id).ownBlock) (hv : ∀ b, v.ownBlock = some b → (τ id).ownBlock = some b ∨ w.heap.size ≤ b) (hct : RelCt (upd τ id' v) S w' v ct') :
    Cfg E (upd τ id' v) S ⟨st.fr, (id', ct') :: del st.hp id⟩ a w' := by
  have hm := lkH_mem hl
  have hne : ∀ p ∈ st.hp, p.1 ≠ id' := fun p hp => (hpFresh_spec hf' p hp).1
  have hns : ∀ b, (τ id).ownBlock = some b → ¬ S b := fun b hb hs => h.hp.ss b hs _ hm hb
  have hsep : ∀ p ∈ del st.hp id, ∀ b, (τ p.1).ownBlock = some b → (τ id).ownBlock ≠ some b := by
    intro p hp b hb
    obtain ⟨h1, h2⟩ := mem_del.1 hp
    exact h.hp.apart h1 hm h2 b hb
  refine h.move hg (fun _ h => h) (fun b hb => .inl hb) (fun b hb => ⟨hns b hb, h.own _ hm b hb⟩) (fun p hp i hi => ?_) ?_ ?_ (fun i hi => upd_ne (by omega))
  · exact upd_ne fun e => by subst e; rw [frFresh_spec hf p hp] at hi; cases hi
  · refine ⟨fun p hp => ?_, ?_, fun b hb => Nat.lt_of_lt_of_le (h.hp.s b hb) hg.size, fun b hb p hp => ?_⟩
    · rcases List.mem_cons.1 hp with rfl | hp
      · simp only [upd_same]; exact hct
      · have hp0 := (mem_del.1 hp).1
        exact h.hp.keepOthers hg (fun _ h => h) hns hp0 (fun b hb e => hsep p hp b hb e) (upd_ne (hne p hp0)) (fun i hi => upd_ne fun e => by subst e; rw [(hpFresh_spec hf' p hp0).2] at hi; cases hi)
    · refine List.pairwise_cons.2 ⟨fun p hp => ⟨(hne p (mem_del.1 hp).1).symm, fun b hb => ?_⟩, ?_⟩
      · simp only [upd_same] at hb
        have hp0 := (mem_del.1 hp).1
        rw [upd_ne (hne p hp0)]
        intro hb'
        rcases hv b hb with h1 | h1
        · exact hsep p hp b hb' h1
        · have := (h.hp.ct p hp0).lt b hb'
          omega
      · refine List.Pairwise.imp_of_mem ?_ (del_pairwise h.hp.sep)
        intro p q hp hq hpq
        rw [upd_ne (hne p (mem_del.1 hp).1), upd_ne (hne q (mem_del.1 hq).1)]
        exact hpq
    · rcases List.mem_cons.1 hp with rfl | hp
      · simp only [upd_same]
        intro hb'
        rcases hv b hb' with h1 | h1
        · exact hns b h1 hb
        · have := h.hp.s b hb
          omega
      · rw [upd_ne (hne p (mem_del.1 hp).1)]; exact h.hp.ss b hb p (mem_del.1 hp).1
  · intro p hp b hb
    rcases List.mem_cons.1 hp with rfl | hp
    · simp only [upd_same] at hb
      rcases hv b hb with h1 | h1
      · exact h.own _ hm b h1
      · exact .inr (Nat.le_trans h.keep.size h1)
    · rw [upd_ne (hne p (mem_del.1 hp).1)] at hb; exact h.own p (mem_del.1 hp).1 b hb

/-- A new block of read-only data. -/
theorem Cfg.share {E τ S st a w} (h : Cfg E τ S st a w) {w' : World} (hg : w.grownBy w' none) : Cfg E τ (fun b => S b ∨ (w.heap.size ≤ b ∧ b < w'.heap.size)) st a w' := by
  refine h.move hg (fun _ h => .inl h) (fun b hb => hb.elim .inl fun hb => .inr (.inr (Nat.le_trans h.keep.size hb.1))) (fun b hb => by cases hb) (fun _ _ _ _ => rfl) ?_ h.own (fun _ _ => rfl)
  refine ⟨fun p hp => h.hp.keepOthers hg (fun _ h => .inl h) (fun b hb => by cases hb) hp (fun b hb e => by cases e) rfl (fun _ _ => rfl), h.hp.sep, ?_, ?_⟩
  · rintro b (hb | hb)
    · exact Nat.lt_of_lt_of_le (h.hp.s b hb) hg.size
    · exact hb.2
  · rintro b (hb | hb) p hp hb'
    · exact h.hp.ss b hb p hp hb'
    · have := (h.hp.ct p hp).lt b hb'
      omega

end Go.Abs
