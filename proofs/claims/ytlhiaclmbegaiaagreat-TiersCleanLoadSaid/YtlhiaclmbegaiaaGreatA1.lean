/- DERIVED. Own theory, part 1: abstract values, the relation to memory, configurations. -/
import Derived.WalkKit
import Derived.Below
import Derived.Laws.AppendOwn
import Derived.Laws.OwnMore
import Derived.Laws.MakeOwn
import Derived.Laws.Slices
import Derived.Laws.NewBlocks
import Derived.Deep.MidRow
import Derived.Great.BuildSlice
import Derived.Orders
import Derived.KernelRfl
set_option linter.unusedVariables false
set_option linter.unusedSimpArgs false
namespace Go.Abs

/-- Read-only data: an exact value; a slice of n elements of sz cells each; a pointer to n cells; a function value that holds k pointers, the i-th to n i cells. -/
inductive DV where
  | v (x : Value)
  | ro (sz n : Nat) (get : Nat → Nat → DV)
  | rp (n : Nat) (get : Nat → DV)
  | fn (f k : Nat) (n : Nat → Nat) (get : Nat → Nat → DV)

def RelD (S : Nat → Prop) (w : World) : DV → Value → Prop
  | .v x, y => y = x
  | .ro sz n g, y => ∃ a c, y = .slice a n c ∧ n ≤ c ∧ (0 < n → ∃ b o, a = some ⟨b, o, none⟩ ∧ S b ∧
      ∀ i, i < n → ∀ j, j < sz → ∃ u, w.cell? ⟨b, o + (i * sz + j), none⟩ = some u ∧ u.oneCell' = true ∧ RelD S w (g i j) u)
  | .rp n g, y => ∃ b o, y = .pointer (some ⟨b, o, none⟩) ∧ S b ∧
      ∀ j, j < n → ∃ u, w.cell? ⟨b, o + j, none⟩ = some u ∧ u.oneCell' = true ∧ RelD S w (g j) u
  | .fn f k n g, y => ∃ us : List Value, y = .func (.func f) #[] us.toArray ∧ us.length = k ∧ ∀ i, i < k → ∃ b o, us[i]? = some (.pointer (some ⟨b, o, none⟩)) ∧ S b ∧
      ∀ j, j < n i → ∃ u, w.cell? ⟨b, o + j, none⟩ = some u ∧ u.oneCell' = true ∧ RelD S w (g i j) u

theorem cell_same {w w' : World} {b o : Nat} (h : w'.heap[b]? = w.heap[b]?) : w'.cell? ⟨b, o, none⟩ = w.cell? ⟨b, o, none⟩ := by
  simp [World.cell?, h]

theorem RelD.mono {S S' : Nat → Prop} {w w' : World} (hS : ∀ b, S b → S' b) (hw : ∀ b, S b → w'.heap[b]? = w.heap[b]?) :
    ∀ (d : DV) (y : Value), RelD S w d y → RelD S' w' d y := by
  intro d
  induction d with
  | v x => exact fun y h => h
  | ro sz n g ih =>
    rintro y ⟨a, c, rfl, hc, h⟩
    refine ⟨a, c, rfl, hc, fun hn => ?_⟩
    obtain ⟨b, o, rfl, hb, hcell⟩ := h hn
    refine ⟨b, o, rfl, hS b hb, fun i hi j hj => ?_⟩
    obtain ⟨u, h1, h2, h3⟩ := hcell i hi j hj
    exact ⟨u, (cell_same (hw b hb)).trans h1, h2, ih i j u h3⟩
  | rp n g ih =>
    rintro y ⟨b, o, rfl, hb, hcell⟩
    refine ⟨b, o, rfl, hS b hb, fun j hj => ?_⟩
    obtain ⟨u, h1, h2, h3⟩ := hcell j hj
    exact ⟨u, (cell_same (hw b hb)).trans h1, h2, ih j u h3⟩
  | fn f k n g ih =>
    rintro y ⟨us, rfl, hl, hall⟩
    refine ⟨us, rfl, hl, fun i hi => ?_⟩
    obtain ⟨b, o, hu, hb, hcell⟩ := hall i hi
    refine ⟨b, o, hu, hS b hb, fun j hj => ?_⟩
    obtain ⟨u, h1, h2, h3⟩ := hcell j hj
    exact ⟨u, (cell_same (hw b hb)).trans h1, h2, ih i j u h3⟩

/-- One cell: data, the slice of a named row, a pointer into a named block (element i of size sz, cell j of it), a slice of n elements of a named row from element i on. -/
inductive C where
  | d (x : DV)
  | nm (id : Nat)
  | np (id sz i j : Nat)
  | ns (id sz i n : Nat)

inductive AV where
  | c (x : C)
  | agg (l : List C)
  | tup (l : List AV)
  | gd (g : Bool) (x : AV)
  | dead

def RelNs (v : Value) (sz i n : Nat) (y : Value) : Prop :=
  ∃ a c, y = .slice a n c ∧ n ≤ c ∧ (0 < n → ∃ b, v.ownBlock = some b ∧ a = some ⟨b, i * sz, none⟩) ∧
      (i = 0 → (n = 0 ∧ y = .slice none 0 0) ∨ ∃ b m, v = .slice (some ⟨b, 0, none⟩) m c ∧ a = some ⟨b, 0, none⟩ ∧ n ≤ m)
def RelC (τ : Nat → Value) (S : Nat → Prop) (w : World) : C → Value → Prop
  | .d x, y => RelD S w x y
  | .nm id, y => y = τ id
  | .np id sz i j, y => ∃ b, (τ id).ownBlock = some b ∧ y = .pointer (some ⟨b, i * sz + j, none⟩)
  | .ns id sz i n, y => RelNs (τ id) sz i n y

def RelCs (τ : Nat → Value) (S : Nat → Prop) (w : World) : List C → List Value → Prop
  | [], [] => True
  | c :: cs, u :: us => (u.oneCell' = true ∧ RelC τ S w c u) ∧ RelCs τ S w cs us
  | _, _ => False

def RelB (τ : Nat → Value) (S : Nat → Prop) (w : World) : AV → Value → Prop
  | .c x, y => RelC τ S w x y
  | .agg l, y => ∃ us, y = .agg us.toArray ∧ RelCs τ S w l us
  | _, _ => False

def RelT (τ : Nat → Value) (S : Nat → Prop) (w : World) : List AV → List Value → Prop
  | [], [] => True
  | c :: cs, u :: us => RelB τ S w c u ∧ RelT τ S w cs us
  | _, _ => False

def RelA (τ : Nat → Value) (S : Nat → Prop) (w : World) : AV → Value → Prop
  | .c x, y => RelC τ S w x y
  | .agg l, y => ∃ us, y = .agg us.toArray ∧ RelCs τ S w l us
  | .tup l, y => ∃ us, y = .tuple us.toArray ∧ RelT τ S w l us
  | .gd g x, y => (g = true → RelB τ S w x y) ∧ (g = false → y = undef)
  | .dead, _ => True

theorem RelB.a {τ S w} : ∀ {x : AV} {y : Value}, RelB τ S w x y → RelA τ S w x y
  | .c _, _, h => h
  | .agg _, _, h => h
  | .tup _, _, h => h.elim
  | .gd _ _, _, h => h.elim
  | .dead, _, h => h.elim

/-- The names in a value. -/
def C.has (id : Nat) : C → Bool
  | .d _ => false
  | .nm i => i == id
  | .np i _ _ _ => i == id
  | .ns i _ _ _ => i == id
def csHas (id : Nat) : List C → Bool
  | [] => false
  | c :: cs => c.has id || csHas id cs
def AV.hasB (id : Nat) : AV → Bool
  | .c x => x.has id
  | .agg l => csHas id l
  | _ => false
def avsHas (id : Nat) : List AV → Bool
  | [] => false
  | c :: cs => c.hasB id || avsHas id cs
def AV.has (id : Nat) : AV → Bool
  | .tup l => avsHas id l
  | .gd _ x => x.hasB id
  | x => x.hasB id

/-- What stands between two states: the same data, the same names. -/
structure Stays (τ τ' : Nat → Value) (S S' : Nat → Prop) (w w' : World) : Prop where
  s : ∀ b, S b → S' b
  h : ∀ b, S b → w'.heap[b]? = w.heap[b]?

section
variable {τ τ' : Nat → Value} {S S' : Nat → Prop} {w w' : World} (st : Stays τ τ' S S' w w')
theorem RelC.mono (st : Stays τ τ' S S' w w') {x : C} {y : Value} (hn : ∀ id, x.has id = true → τ' id = τ id) (h : RelC τ S w x y) : RelC τ' S' w' x y := by
  cases x with
  | d x => exact RelD.mono st.s st.h x y h
  | nm id => exact h.trans (hn id (by simp [C.has])).symm
  | np id sz i j =>
    obtain ⟨b, hb, hy⟩ := h
    exact ⟨b, by rw [hn id (by simp [C.has])]; exact hb, hy⟩
  | ns id sz i n =>
    show RelNs (τ' id) sz i n y
    rw [hn id (by simp [C.has])]
    exact h
theorem RelCs.mono (st : Stays τ τ' S S' w w') : ∀ {l : List C} {us : List Value}, (∀ id, csHas id l = true → τ' id = τ id) → RelCs τ S w l us → RelCs τ' S' w' l us
  | [], [], _, _ => trivial
  | [], _ :: _, _, h => h.elim
  | _ :: _, [], _, h => h.elim
  | c :: cs, u :: us, hn, ⟨⟨h1, h2⟩, h3⟩ =>
    ⟨⟨h1, h2.mono st fun id hi => hn id (by simp [csHas, hi])⟩, RelCs.mono st (fun id hi => hn id (by simp [csHas, hi])) h3⟩
theorem RelB.mono (st : Stays τ τ' S S' w w') : ∀ {x : AV} {y : Value}, (∀ id, x.hasB id = true → τ' id = τ id) → RelB τ S w x y → RelB τ' S' w' x y
  | .c x, y, hn, h => RelC.mono st hn h
  | .agg l, y, hn, h => by
    obtain ⟨us, he, hr⟩ := h
    exact ⟨us, he, hr.mono st hn⟩
  | .tup _, _, _, h => h.elim
  | .gd _ _, _, _, h => h.elim
  | .dead, _, _, h => h.elim
theorem RelT.mono (st : Stays τ τ' S S' w w') : ∀ {l : List AV} {us : List Value}, (∀ id, avsHas id l = true → τ' id = τ id) → RelT τ S w l us → RelT τ' S' w' l us
  | [], [], _, _ => trivial
  | [], _ :: _, _, h => h.elim
  | _ :: _, [], _, h => h.elim
  | c :: cs, u :: us, hn, ⟨h2, h3⟩ =>
    ⟨h2.mono st fun id hi => hn id (by simp [avsHas, hi]), RelT.mono st (fun id hi => hn id (by simp [avsHas, hi])) h3⟩
theorem RelA.mono (st : Stays τ τ' S S' w w') : ∀ {x : AV} {y : Value}, (∀ id, x.has id = true → τ' id = τ id) → RelA τ S w x y → RelA τ' S' w' x y
  | .c x, y, hn, h => RelC.mono st hn h
  | .agg l, y, hn, h => by
    obtain ⟨us, he, hr⟩ := h
    exact ⟨us, he, hr.mono st hn⟩
  | .tup l, y, hn, h => by
    obtain ⟨us, he, hr⟩ := h
    exact ⟨us, he, hr.mono st hn⟩
  | .gd g x, y, hn, h => ⟨fun hg => RelB.mono st hn (h.1 hg), h.2⟩
  | .dead, _, _, _ => trivial
end

/-- The marked range of a block (its bytes shared with a string) lies behind its cells. -/
def okFz (fz : Nat × Nat) (size : Nat) : Prop := fz.2 = fz.1 ∨ size ≤ fz.1
/-- A slice of n elements, from its block's head on, whose cells are xs; the block may be written. -/
def OwnR (w : World) (e size : Nat) (v : Value) (n : Nat) (xs : List Value) : Prop :=
  xs.length = n * size ∧
  ((v = .slice none 0 0 ∧ n = 0) ∨
   ∃ g cap cur fz, v = .slice (some ⟨g, 0, none⟩) n cap ∧ w.heap[g]? = some (.cells cur e fz) ∧ okFz fz cur.size ∧ n ≤ cap ∧ cap ≤ maxLen ∧ cur.size = cap * size ∧ cur.toList.take (n * size) = xs)
theorem OwnR.lt {w : World} {e size n : Nat} {v : Value} {xs : List Value} (h : OwnR w e size v n xs) : ∀ k, v.ownBlock = some k → k < w.heap.size := by
  intro k hk
  rcases h.2 with ⟨rfl, _⟩ | ⟨g, cap, cur, fz, rfl, hg, _⟩
  · simp [Value.ownBlock] at hk
  · simp [Value.ownBlock] at hk
    subst hk
    exact (Array.getElem?_eq_some_iff.1 hg).1
theorem OwnR.cells {w : World} {e size n : Nat} {v : Value} {xs : List Value} (h : OwnR w e size v n xs) {b : Nat} (hb : v.ownBlock = some b) {k : Nat} {u : Value} (hk : xs[k]? = some u) : w.cell? ⟨b, k, none⟩ = some u := by
  rcases h.2 with ⟨rfl, _⟩ | ⟨g, cap, cur, fz, rfl, hg, _, _, _, _, htake⟩
  · simp [Value.ownBlock] at hb
  · simp [Value.ownBlock] at hb
    subst hb
    rw [← htake, List.getElem?_take] at hk
    split at hk
    · simp only [World.cell?, hg]
      simpa using hk
    · cases hk

/-- What a named block holds: rows of data (n elements of sz cells), or a box of cells. -/
inductive Ct where
  | rows (ety sz n : Nat) (get : Nat → Nat → DV)
  | box (ety : Nat) (cells : List C)

def Ct.has (id : Nat) : Ct → Bool
  | .rows .. => false
  | .box _ l => csHas id l

def RelCt (τ : Nat → Value) (S : Nat → Prop) (w : World) (v : Value) : Ct → Prop
  | .rows ety sz n g => ∃ xs, OwnR w ety sz v n xs ∧ ∀ i, i < n → ∀ j, j < sz → ∃ u, xs[i * sz + j]? = some u ∧ u.oneCell' = true ∧ RelD S w (g i j) u
  | .box ety cs => ∃ b us, v = .slice (some ⟨b, 0, none⟩) 1 1 ∧ w.heap[b]? = some (.cells us.toArray ety (0, 0)) ∧ RelCs τ S w cs us

theorem RelCt.mono {τ τ' : Nat → Value} {S S' : Nat → Prop} {w w' : World} (st : Stays τ τ' S S' w w') {v : Value} {c : Ct}
    (hn : ∀ id, c.has id = true → τ' id = τ id) (hb : ∀ b, v.ownBlock = some b → w'.heap[b]? = w.heap[b]?) (h : RelCt τ S w v c) : RelCt τ' S' w' v c := by
  cases c with
  | rows ety sz n g =>
    obtain ⟨xs, ho, hc⟩ := h
    refine ⟨xs, ⟨ho.1, ?_⟩, fun i hi j hj => ?_⟩
    · rcases ho.2 with hn | ⟨g, cap, cur, fz, rfl, hg, rest⟩
      · exact .inl hn
      · exact .inr ⟨g, cap, cur, fz, rfl, (hb g rfl).trans hg, rest⟩
    · obtain ⟨u, h1, h2, h3⟩ := hc i hi j hj
      exact ⟨u, h1, h2, RelD.mono st.s st.h _ _ h3⟩
  | box ety cs =>
    obtain ⟨b, us, rfl, hh, hr⟩ := h
    exact ⟨b, us, rfl, (hb b rfl).trans hh, hr.mono st hn⟩

theorem RelCt.lt {τ : Nat → Value} {S : Nat → Prop} {w : World} {v : Value} {c : Ct} (h : RelCt τ S w v c) : ∀ b, v.ownBlock = some b → b < w.heap.size := by
  intro b hb
  cases c with
  | rows ety sz n g =>
    obtain ⟨xs, ho, _⟩ := h
    exact ho.lt b hb
  | box ety cs =>
    obtain ⟨b', us, rfl, hh, _⟩ := h
    obtain rfl : b' = b := by simpa [Value.ownBlock] using hb
    exact (Array.getElem?_eq_some_iff.1 hh).1

structure ASt where
  fr : List (Nat × AV)
  hp : List (Nat × Ct)

structure HP (τ : Nat → Value) (S : Nat → Prop) (w : World) (hp : List (Nat × Ct)) : Prop where
  ct : ∀ p ∈ hp, RelCt τ S w (τ p.1) p.2
  sep : hp.Pairwise fun p q => p.1 ≠ q.1 ∧ ∀ b, (τ p.1).ownBlock = some b → (τ q.1).ownBlock ≠ some b
  s : ∀ b, S b → b < w.heap.size
  ss : ∀ b, S b → ∀ p ∈ hp, (τ p.1).ownBlock ≠ some b

structure Env where
  w0 : World
  O : Nat → Prop
  S0 : Nat → Prop
  N : Nat
  τ0 : Nat → Value

/-- The names from here on come new in a call; those below are its parameters' and stay bound. -/
abbrev newId : Nat := 100

structure Keep (w0 : World) (O : Nat → Prop) (w : World) : Prop where
  os : w.os = w0.os
  tape : w.tape = w0.tape
  output : w.output = w0.output
  size : w0.heap.size ≤ w.heap.size
  block : ∀ b, b < w0.heap.size → ¬ O b → w.heap[b]? = w0.heap[b]?

structure Cfg (E : Env) (τ : Nat → Value) (S : Nat → Prop) (st : ASt) (a : Act) (w : World) : Prop where
  df : a.defers = []
  sz : a.tmps.size = E.N
  fr : ∀ p ∈ st.fr, ∃ y, a.tmps[p.1]? = some y ∧ RelA τ S w p.2 y
  hp : HP τ S w st.hp
  own : ∀ p ∈ st.hp, ∀ b, (τ p.1).ownBlock = some b → E.O b ∨ E.w0.heap.size ≤ b
  so : ∀ b, S b → E.S0 b ∨ E.O b ∨ E.w0.heap.size ≤ b
  keep : Keep E.w0 E.O w
  base : ∀ id, id < newId → τ id = E.τ0 id

/-- A state's post, laid over configurations. -/
def Post (E : Env) (Q : Exit → ASt → Prop) : Exit → Act → World → Prop :=
  fun e a w => ∃ τ S st, Q e st ∧ Cfg E τ S st a w

def WPA (P : Program) (N : Nat) (c : Code) (st : ASt) (Q : Exit → ASt → Prop) : Prop :=
  ∀ E τ S a w, E.N = N → Cfg E τ S st a w → c.wp P (Post E Q) a w

/-- The region's operations from a list of their numbers on. -/
def WO (P : Program) (N : Nat) (ops : Array Oper) (l : List Nat) (st : ASt) (Q : Exit → ASt → Prop) : Prop :=
  ∀ E τ S a w, E.N = N → Cfg E τ S st a w → wpOps P ops (Post E Q) l a w

/-! ### Frames -/
def lk : List (Nat × AV) → Nat → AV
  | [], _ => .dead
  | (k, v) :: r, t => if k = t then v else lk r t
def lkH : List (Nat × Ct) → Nat → Option Ct
  | [], _ => none
  | (k, v) :: r, t => if k = t then some v else lkH r t
def del {α : Type} : List (Nat × α) → Nat → List (Nat × α)
  | [], _ => []
  | (k, v) :: r, t => if k = t then del r t else (k, v) :: del r t
def putF (fr : List (Nat × AV)) (d : Option Nat) (v : AV) : List (Nat × AV) :=
  match d with
  | none => fr
  | some d => (d, v) :: del fr d

theorem lk_mem : ∀ {fr : List (Nat × AV)} {t : Nat}, lk fr t = .dead ∨ (t, lk fr t) ∈ fr
  | [], _ => .inl rfl
  | (k, v) :: r, t => by
    unfold lk
    by_cases h : k = t
    · subst h; simp
    · simp only [h, if_false]
      exact (lk_mem (fr := r) (t := t)).imp id (List.mem_cons_of_mem _)
theorem lkH_mem : ∀ {hp : List (Nat × Ct)} {t : Nat} {c : Ct}, lkH hp t = some c → (t, c) ∈ hp
  | [], _, _, h => by simp [lkH] at h
  | (k, v) :: r, t, c, h => by
    unfold lkH at h
    by_cases hk : k = t
    · subst hk; simp at h; subst h; simp
    · simp only [hk, if_false] at h
      exact List.mem_cons_of_mem _ (lkH_mem h)
theorem mem_del {α : Type} : ∀ {l : List (Nat × α)} {t : Nat} {p : Nat × α}, p ∈ del l t ↔ p ∈ l ∧ p.1 ≠ t
  | [], t, p => by simp [del]
  | (k, v) :: r, t, p => by
    unfold del
    by_cases h : k = t
    · simp only [h, if_true, List.mem_cons, mem_del (l := r)]
      constructor
      · rintro ⟨h1, h2⟩; exact ⟨.inr h1, h2⟩
      · rintro ⟨h1 | h1, h2⟩
        · exact absurd (by rw [h1]) h2
        · exact ⟨h1, h2⟩
    · simp only [h, if_false, List.mem_cons, mem_del (l := r)]
      constructor
      · rintro (h1 | ⟨h1, h2⟩)
        · subst h1; exact ⟨.inl rfl, h⟩
        · exact ⟨.inr h1, h2⟩
      · rintro ⟨h1 | h1, h2⟩
        · exact .inl h1
        · exact .inr ⟨h1, h2⟩
theorem del_pairwise {α : Type} {R : Nat × α → Nat × α → Prop} : ∀ {l : List (Nat × α)} {t : Nat}, l.Pairwise R → (del l t).Pairwise R
  | [], _, _ => List.Pairwise.nil
  | (k, v) :: r, t, h => by
    unfold del
    have h2 := List.pairwise_cons.1 h
    by_cases hk : k = t
    · simp only [hk, if_true]; exact del_pairwise h2.2
    · simp only [hk, if_false]
      exact List.pairwise_cons.2 ⟨fun p hp => h2.1 p (mem_del.1 hp).1, del_pairwise h2.2⟩

theorem Cfg.lk {E τ S st a w} (h : Cfg E τ S st a w) (t : Nat) : RelA τ S w (lk st.fr t) (a.tmps.getD t undef) := by
  rcases lk_mem (fr := st.fr) (t := t) with hd | hm
  · rw [hd]; trivial
  · obtain ⟨y, hy, hr⟩ := h.fr _ hm
    have : a.tmps.getD t undef = y := by
      rw [Array.getD_eq_getD_getElem?, hy]; rfl
    rw [this]; exact hr

/-- A value is laid into a slot. -/
theorem Cfg.put {E τ S st a w} (h : Cfg E τ S st a w) {d : Option Nat} {v : AV} {y : Value} (hd : ∀ t, d = some t → t < E.N) (hr : RelA τ S w v y) :
    Cfg E τ S ⟨putF st.fr d v, st.hp⟩ (a.put d y) w := by
  cases d with
  | none => exact h
  | some t =>
    refine ⟨h.df, by simpa [Act.put] using h.sz, ?_, h.hp, h.own, h.so, h.keep, h.base⟩
    have ht := hd t rfl
    intro p hp
    simp only [putF, List.mem_cons] at hp
    rcases hp with rfl | hp
    · exact ⟨y, by simp [Act.put, h.sz, ht], hr⟩
    · obtain ⟨h1, h2⟩ := mem_del.1 hp
      obtain ⟨u, hu, hru⟩ := h.fr p h1
      exact ⟨u, by simp only [Act.put]; rw [Array.getElem?_setIfInBounds_ne (Ne.symm h2)]; exact hu, hru⟩

/-- Fewer facts. -/
structure Le (st st' : ASt) : Prop where
  fr : ∀ p ∈ st'.fr, p ∈ st.fr
  hp : List.Sublist st'.hp st.hp
theorem Cfg.weaken {E τ S st st' a w} (h : Cfg E τ S st a w) (hl : Le st st') : Cfg E τ S st' a w :=
  ⟨h.df, h.sz, fun p hp => h.fr p (hl.fr p hp), ⟨fun p hp => h.hp.ct p (hl.hp.subset hp), h.hp.sep.sublist hl.hp, h.hp.s, fun b hb p hp => h.hp.ss b hb p (hl.hp.subset hp)⟩,
    fun p hp => h.own p (hl.hp.subset hp), h.so, h.keep, h.base⟩

end Go.Abs
