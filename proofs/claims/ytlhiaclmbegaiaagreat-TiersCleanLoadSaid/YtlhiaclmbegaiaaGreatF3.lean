/- DERIVED. Printed by gen.py of this repo. -/
import Derived.Test.YtlhiaclmbegaiaaGreatF2
set_option linter.unusedVariables false
set_option linter.unusedSimpArgs false
set_option maxRecDepth 100000
namespace Go.Abs
open Go.Proofs
noncomputable def L_r27_Words_2 (p0 : ByteArray) (j2 : Int × List ByteArray × List Int) : Option ((Int × List ByteArray × List Int) ⊕ ((List ByteArray) ⊕ (List ByteArray))) :=
 cond (decide (j2.1 ≤ (p0.size : Int))) (
 bindE (σ := (List ByteArray × List Int)) (
 bindE (σ := (Int)) (
 cond (decide (j2.1 < (p0.size : Int))) (
 gd ((0 : Int) ≤ j2.1 ∧ j2.1 < (p0.size : Int)) (
 bnd (F_r27_letter (bt p0 j2.1)) fun r2 =>
 some (.inl r2))) (
 some (.inl 0))) fun j4 =>
 cond (j4 != 0) (
 gd ((j2.2.2.length + ([j4] : List Int).length) * 1 ≤ 140737488355328) (
 some (.inl (j2.2.1, (j2.2.2 ++ ([j4] : List Int)))))) (
 bindE (σ := (List ByteArray)) (
 cond (cond (decide ((j2.2.2.length : Int) > 0)) (decide ((j2.2.2.length : Int) ≤ 40)) false) (
 gd ((j2.2.1.length + ([(strOf j2.2.2.length fun i => j2.2.2.getD i default)] : List ByteArray).length) * 16 ≤ 140737488355328) (
 some (.inl (j2.2.1 ++ ([(strOf j2.2.2.length fun i => j2.2.2.getD i default)] : List ByteArray))))) (
 some (.inl j2.2.1))) fun j5 =>
 some (.inl (j5, ([] : List Int))))) fun j3 =>
 some (.inl ((IntKind.wrap .i64 (j2.1 + 1)), j3.1, j3.2))) (
 some (.inr (.inl j2.2.1)))
noncomputable def F_r27_Words (p0 : ByteArray) : Option (List ByteArray) :=
 bindE (σ := (List ByteArray)) (
 loop (L_r27_Words_2 p0) (0, ([] : List ByteArray), ([] : List Int))) fun j1 =>
 bnd (F_r23_Distinct j1) fun r5 =>
 some r5
noncomputable def z_r27_Words (p0 : ByteArray) : Cert Tryz.prog 42 (List ByteArray) :=
 .r 2 1 100 [0] [] <|
 .r 4 1 100 [0, 3] [] <|
 .r 4 1 100 [0, 3, 4] [] <|
 .sq 2 (fun j1 : (List ByteArray) => ⟨[(3, .c (.nm 100))], [(100, .rows 9 1 j1.length (gT fStr j1))]⟩) (
 .r 2 1 100 [0, 3, 4, 5] [] <|
 .s (.own 3 100 9 1 (gT fStr [])) <|
 .s (.own 4 101 5 1 (gT (fInt .u8) [])) <|
 .s (.cn [0, 3, 4, 5] [100, 101]) <|
 .lp 3 (fun j2 : (Int × List ByteArray × List Int) => ⟨[(0, xs p0), (3, .c (.nm 100)), (4, .c (.nm 101)), (5, xi j2.1)], [(100, .rows 9 1 j2.2.1.length (gT fStr j2.2.1)), (101, .rows 5 1 j2.2.2.length (gT (fInt .u8) j2.2.2))]⟩) (0, ([] : List ByteArray), ([] : List Int)) fun j2 =>
 .r 3 4 102 [0, 3, 4, 5, 10] [100, 101] <|
 .cond 2 (
 .sq 2 (fun j3 : (List ByteArray × List Int) => ⟨[(0, xs p0), (3, .c (.nm 100)), (4, .c (.nm 102)), (5, xi j2.1)], [(100, .rows 9 1 j3.1.length (gT fStr j3.1)), (102, .rows 5 1 j3.2.length (gT (fInt .u8) j3.2))]⟩) (
 .r 3 1 102 [0, 3, 4, 5, 6] [100, 101] <|
 .sq 2 (fun j4 : (Int) => ⟨[(0, xs p0), (3, .c (.nm 100)), (4, .c (.nm 101)), (5, xi j2.1), (6, .c (.d (.v (.int .u8 j4))))], [(100, .rows 9 1 j2.2.1.length (gT fStr j2.2.1)), (101, .rows 5 1 j2.2.2.length (gT (fInt .u8) j2.2.2))]⟩) (
 .r 2 4 102 [0, 3, 4, 5, 6, 16] [100, 101] <|
 .cond 2 (
 .gd ((0 : Int) ≤ j2.1 ∧ j2.1 < (p0.size : Int)) fun g1 =>
 .rp 1 3 102 [0, 3, 4, 5, 19] [100, 101] (some (((0 : Int) ≤ j2.1 ∧ j2.1 < (p0.size : Int)))) (ob1 g1) <|
 .bind (F_r27_letter (bt p0 j2.1)) fun r2 hr2 =>
 .s (.call [] [] (c_r27_letter hr2)) <|
 .r 0 1 102 [0, 3, 4, 5, 6] [100, 101] <|
 .lf 1 [0, 3, 4, 5, 6] [100, 101] (.inl r2)
 ) (
 .lf 1 [0, 3, 4, 5, 6] [100, 101] (.inl 0)
 )
 ) fun j4 =>
 .r 3 2 102 [0, 3, 4, 5, 6, 22] [100, 101] <|
 .cond 2 (
 .r 2 3 102 [0, 3, 5, 23, 25] [100, 101] <|
 .gd ((j2.2.2.length + ([j4] : List Int).length) * 1 ≤ 140737488355328) fun g3 =>
 .s (.appL (fInt .u8) (j2.2.2) (([j4] : List Int)) (gT (fInt .u8) j2.2.2) (.inr rfl) 5 1 1 102 g3) <|
 .r 0 1 103 [0, 3, 4, 5] [100, 102] <|
 .lf 3 [0, 3, 4, 5] [100, 102] (.inl (j2.2.1, (j2.2.2 ++ ([j4] : List Int))))
 ) (
 .sq 2 (fun j5 : (List ByteArray) => ⟨[(0, xs p0), (3, .c (.nm 103)), (5, xi j2.1)], [(103, .rows 9 1 j5.length (gT fStr j5))]⟩) (
 .rp 2 8 103 [0, 3, 4, 5, 34] [100, 101] (let u2 := (decide ((j2.2.2.length : Int) > 0)); let u1 := (u2 = true → u2 = true); some ((u1 ∧ (u1 ∧ u1)))) (ob1 (⟨fun h => h, ⟨fun h => h, (fun h => h)⟩⟩)) <|
 .cond 2 (
 .rp 1 4 103 [0, 5, 35, 38] [100] (some ((∃ f : Nat → Int, gT fU8 j2.2.2 = fun i _ => .v (.int .u8 (f i))))) (ob1 (⟨fun i => j2.2.2.getD i default, rfl⟩)) <|
 .gd ((j2.2.1.length + ([(strOf j2.2.2.length fun i => j2.2.2.getD i default)] : List ByteArray).length) * 16 ≤ 140737488355328) fun g4 =>
 .s (.appL fStr (j2.2.1) (([(strOf j2.2.2.length fun i => j2.2.2.getD i default)] : List ByteArray)) (gT fStr j2.2.1) (.inr rfl) 9 1 16 103 g4) <|
 .r 0 1 104 [0, 3, 5] [103] <|
 .lf 1 [0, 3, 5] [103] (.inl (j2.2.1 ++ ([(strOf j2.2.2.length fun i => j2.2.2.getD i default)] : List ByteArray)))
 ) (
 .s (.cn [0, 3, 5] [100]) <|
 .s (.rn 100 103) <|
 .lf 1 [0, 3, 5] [103] (.inl j2.2.1)
 )
 ) fun j5 =>
 .r 1 1 104 [0, 3, 4, 5] [103] <|
 .s (.own 4 104 5 1 (gT (fInt .u8) [])) <|
 .s (.cn [0, 3, 4, 5] [103, 104]) <|
 .s (.rn 103 100) <|
 .s (.rn 104 102) <|
 .lf 1 [0, 3, 4, 5] [100, 102] (.inl (j5, ([] : List Int)))
 )
 ) fun j3 =>
 .r 1 3 105 [0, 3, 4, 5] [100, 102] <|
 .s (.cn [0, 3, 4, 5] [100, 102]) <|
 .s (.rn 102 101) <|
 .lf 1 [0, 3, 4, 5] [100, 101] (.inl ((IntKind.wrap .i64 (j2.1 + 1)), j3.1, j3.2))
 ) (
 .lf 1 [3] [100] (.inr (.inl j2.2.1))
 )
 ) fun j1 =>
 .r 2 1 105 [40] [100] <|
 .bind (F_r23_Distinct j1) fun r5 hr5 =>
 .s (.call [(60, 100)] [(900, 105)] (Spec.lend 60 9 1 j1.length (gT fStr j1) _ (c_r23_Distinct hr5) (args := [.c (.nm 60)]) rfl rfl rfl (by repeat (first | trivial | refine ⟨fun _ _ => ⟨_, rfl⟩, ?_⟩)))) <|
 .r 0 1 106 [2] [105] <|
 .s (.rn 105 900) <|
 .lf 3 [2] [900] r5
/-- logtide/logtideref27.Words -/
theorem c_r27_Words {p0 : ByteArray} {r : List ByteArray} (h : F_r27_Words p0 = some r) : Spec Tryz.prog 99 [xs p0] [] (.c (.nm 900)) [(900, .rows 9 1 r.length (gT fStr r))] :=
  Cert.spec [900] (fun r : List ByteArray => .c (.nm 900)) (fun r => [(900, .rows 9 1 r.length (gT fStr r))]) (z_r27_Words p0) Tryz.func99 rfl (by kernel_rfl) h
noncomputable def L_r12_Text_2 (p0 : S_Event) (j2 : ByteArray × Int) : Option ((ByteArray × Int) ⊕ ((ByteArray) ⊕ (ByteArray))) :=
 cond (decide (j2.2 < (p0.Lines.length : Int))) (
 bindE (σ := (ByteArray)) (
 cond (decide (j2.2 > 0)) (
 gd (j2.1.size + (ByteArray.mk #[10]).size ≤ 9223372036854775807) (
 some (.inl (j2.1 ++ (ByteArray.mk #[10]))))) (
 some (.inl j2.1))) fun j3 =>
 gd ((0 : Int) ≤ j2.2 ∧ j2.2 < (p0.Lines.length : Int)) (
 gd (j3.size + ((p0.Lines.getD (Int.toNat j2.2) default).Text).size ≤ 9223372036854775807) (
 some (.inl ((j3 ++ ((p0.Lines.getD (Int.toNat j2.2) default).Text)), (IntKind.wrap .i64 (j2.2 + 1))))))) (
 some (.inr (.inl j2.1)))
noncomputable def F_r12_Text (p0 : S_Event) : Option (ByteArray) :=
 bindE (σ := (ByteArray)) (
 loop (L_r12_Text_2 p0) ((ByteArray.mk #[]), 0)) fun j1 =>
 some j1
noncomputable def z_r12_Text (p0 : S_Event) : Cert Tryz.prog 25 (ByteArray) :=
 .r 2 2 100 [1] [100] <|
 .r 4 1 101 [1, 3] [100] <|
 .sq 2 (fun j1 : (ByteArray) => ⟨[(3, xs j1)], []⟩) (
 .r 2 1 101 [1, 3, 4] [100] <|
 .s (.cn [1, 3, 4] [100]) <|
 .lp 3 (fun j2 : (ByteArray × Int) => ⟨[(1, .c (.np 100 10 0 0)), (3, xs j2.1), (4, xi j2.2)], [(100, .box 67 (bS_Event p0))]⟩) ((ByteArray.mk #[]), 0) fun j2 =>
 .r 3 5 101 [1, 3, 4, 9] [100] <|
 .cond 2 (
 .sq 4 (fun j3 : (ByteArray) => ⟨[(1, .c (.np 100 10 0 0)), (3, xs j3), (4, xi j2.2)], [(100, .box 67 (bS_Event p0))]⟩) (
 .r 2 2 101 [1, 3, 4, 13] [100] <|
 .cond 2 (
 .gd (j2.1.size + (ByteArray.mk #[10]).size ≤ 9223372036854775807) fun g1 =>
 .rp 1 3 101 [1, 3, 4] [100] (some ((j2.1.size + (ByteArray.mk #[10]).size ≤ 9223372036854775807))) (ob1 g1) <|
 .lf 1 [1, 3, 4] [100] (.inl (j2.1 ++ (ByteArray.mk #[10])))
 ) (
 .lf 1 [1, 3, 4] [100] (.inl j2.1)
 )
 ) fun j3 =>
 .gd ((0 : Int) ≤ j2.2 ∧ j2.2 < (p0.Lines.length : Int)) fun g2 =>
 .gd (j3.size + ((p0.Lines.getD (Int.toNat j2.2) default).Text).size ≤ 9223372036854775807) fun g3 =>
 .rp 1 9 101 [1, 3, 4] [100] (some ((((0 : Int) ≤ j2.2 ∧ j2.2 < (p0.Lines.length : Int)) ∧ (j3.size + ((p0.Lines.getD (Int.toNat j2.2) default).Text).size ≤ 9223372036854775807)))) (ob1 (⟨g2, g3⟩)) <|
 .r 4 3 101 [1, 3, 4] [100] <|
 .lf 1 [1, 3, 4] [100] (.inl ((j3 ++ ((p0.Lines.getD (Int.toNat j2.2) default).Text)), (IntKind.wrap .i64 (j2.2 + 1))))
 ) (
 .lf 1 [3] [] (.inr (.inl j2.1))
 )
 ) fun j1 =>
 .r 2 2 101 [2] [] <|
 .lf 3 [2] [] j1
/-- logtide/logtideref12.Text -/
theorem c_r12_Text {p0 : S_Event} {r : ByteArray} (h : F_r12_Text p0 = some r) : Spec Tryz.prog 100 [.agg (bS_Event p0)] [] (xs r) [] :=
  Cert.spec [] (fun r : ByteArray => xs r) (fun r => []) (z_r12_Text p0) Tryz.func100 rfl (by kernel_rfl) h
noncomputable def L_r27_words_2 (p0 : List S_Event) (j2 : Int × List ByteArray) : Option ((Int × List ByteArray) ⊕ ((List ByteArray) ⊕ (List ByteArray))) :=
 cond (decide (j2.1 < (p0.length : Int))) (
 gd ((0 : Int) ≤ j2.1 ∧ j2.1 < (p0.length : Int)) (
 bnd (F_r12_Text (p0.getD (Int.toNat j2.1) default)) fun r2 =>
 bnd (F_r27_Words r2) fun r3 =>
 gd ((j2.2.length + r3.length) * 16 ≤ 140737488355328) (
 some (.inl ((IntKind.wrap .i64 (j2.1 + 1)), (j2.2 ++ r3)))))) (
 some (.inr (.inl j2.2)))
noncomputable def F_r27_words (p0 : List S_Event) : Option (List ByteArray) :=
 bindE (σ := (List ByteArray)) (
 loop (L_r27_words_2 p0) (0, ([] : List ByteArray))) fun j1 =>
 bnd (F_r23_Distinct j1) fun r5 =>
 some r5
noncomputable def z_r27_words (p0 : List S_Event) : Cert Tryz.prog 21 (List ByteArray) :=
 .r 2 1 100 [0] [] <|
 .r 4 1 100 [0, 3] [] <|
 .sq 2 (fun j1 : (List ByteArray) => ⟨[(3, .c (.nm 100))], [(100, .rows 9 1 j1.length (gT fStr j1))]⟩) (
 .r 2 1 100 [0, 3, 4] [] <|
 .s (.own 3 100 9 1 (gT fStr [])) <|
 .s (.cn [0, 3, 4] [100]) <|
 .lp 3 (fun j2 : (Int × List ByteArray) => ⟨[(0, .c (.d (.ro 10 p0.length (gT fS_Event p0)))), (3, .c (.nm 100)), (4, xi j2.1)], [(100, .rows 9 1 j2.2.length (gT fStr j2.2))]⟩) (0, ([] : List ByteArray)) fun j2 =>
 .r 3 4 101 [0, 3, 4, 8] [100] <|
 .cond 2 (
 .gd ((0 : Int) ≤ j2.1 ∧ j2.1 < (p0.length : Int)) fun g1 =>
 .rp 5 5 101 [0, 4, 11, 15] [100] (some (((0 : Int) ≤ j2.1 ∧ j2.1 < (p0.length : Int)))) (ob1 g1) <|
 .bind (F_r12_Text (p0.getD (Int.toNat j2.1) default)) fun r2 hr2 =>
 .s (.call [] [] (c_r12_Text hr2)) <|
 .r 0 0 101 [0, 4, 11, 16] [100] <|
 .bind (F_r27_Words r2) fun r3 hr3 =>
 .s (.call [] [(900, 101)] (c_r27_Words hr3)) <|
 .r 0 0 102 [0, 4, 11, 17] [100, 101] <|
 .gd ((j2.2.length + r3.length) * 16 ≤ 140737488355328) fun g4 =>
 .s (.appL fStr (j2.2) (r3) (gT fStr j2.2) (.inr rfl) 9 1 16 102 g4) <|
 .r 0 1 103 [0, 3, 4] [102] <|
 .r 4 3 103 [0, 3, 4] [102] <|
 .s (.cn [0, 3, 4] [102]) <|
 .s (.rn 102 100) <|
 .lf 1 [0, 3, 4] [100] (.inl ((IntKind.wrap .i64 (j2.1 + 1)), (j2.2 ++ r3)))
 ) (
 .lf 1 [3] [100] (.inr (.inl j2.2))
 )
 ) fun j1 =>
 .r 2 1 103 [19] [100] <|
 .bind (F_r23_Distinct j1) fun r5 hr5 =>
 .s (.call [(60, 100)] [(900, 103)] (Spec.lend 60 9 1 j1.length (gT fStr j1) _ (c_r23_Distinct hr5) (args := [.c (.nm 60)]) rfl rfl rfl (by repeat (first | trivial | refine ⟨fun _ _ => ⟨_, rfl⟩, ?_⟩)))) <|
 .r 0 1 104 [2] [103] <|
 .s (.rn 103 900) <|
 .lf 3 [2] [900] r5
/-- logtide/logtideref27.words -/
theorem c_r27_words {p0 : List S_Event} {r : List ByteArray} (h : F_r27_words p0 = some r) : Spec Tryz.prog 70 [.c (.d (.ro 10 p0.length (gT fS_Event p0)))] [] (.c (.nm 900)) [(900, .rows 9 1 r.length (gT fStr r))] :=
  Cert.spec [900] (fun r : List ByteArray => .c (.nm 900)) (fun r => [(900, .rows 9 1 r.length (gT fStr r))]) (z_r27_words p0) Tryz.func70 rfl (by kernel_rfl) h
noncomputable def L_r27_names_4 (j2 : Int × List ByteArray) (p0 : List S_Event) (j4 : Int × List ByteArray) : Option ((Int × List ByteArray) ⊕ ((List ByteArray) ⊕ ((Int × List ByteArray) ⊕ ((List ByteArray) ⊕ (List ByteArray))))) :=
 gd ((0 : Int) ≤ j2.1 ∧ j2.1 < (p0.length : Int)) (
 cond (decide (j4.1 < (((p0.getD (Int.toNat j2.1) default).Fields).length : Int))) (
 gd ((0 : Int) ≤ j4.1 ∧ j4.1 < (((p0.getD (Int.toNat j2.1) default).Fields).length : Int)) (
 gd ((j4.2.length + ([(((p0.getD (Int.toNat j2.1) default).Fields).getD (Int.toNat j4.1) default).Name] : List ByteArray).length) * 16 ≤ 140737488355328) (
 bd (j4.2 ++ ([(((p0.getD (Int.toNat j2.1) default).Fields).getD (Int.toNat j4.1) default).Name] : List ByteArray)) fun x4 =>
 some (.inl ((IntKind.wrap .i64 (j4.1 + 1)), x4))))) (
 some (.inr (.inl j4.2))))
noncomputable def L_r27_names_2 (p0 : List S_Event) (j2 : Int × List ByteArray) : Option ((Int × List ByteArray) ⊕ ((List ByteArray) ⊕ (List ByteArray))) :=
 cond (decide (j2.1 < (p0.length : Int))) (
 bindE (σ := (List ByteArray)) (
 loop (L_r27_names_4 j2 p0) (0, j2.2)) fun j3 =>
 some (.inl ((IntKind.wrap .i64 (j2.1 + 1)), j3))) (
 some (.inr (.inl j2.2)))
noncomputable def F_r27_names (p0 : List S_Event) : Option (List ByteArray) :=
 bindE (σ := (List ByteArray)) (
 loop (L_r27_names_2 p0) (0, ([] : List ByteArray))) fun j1 =>
 bnd (F_r23_Distinct j1) fun r5 =>
 some r5
noncomputable def z_r27_names (p0 : List S_Event) : Cert Tryz.prog 36 (List ByteArray) :=
 .r 2 1 100 [0] [] <|
 .r 4 1 100 [0, 3] [] <|
 .sq 2 (fun j1 : (List ByteArray) => ⟨[(3, .c (.nm 100))], [(100, .rows 9 1 j1.length (gT fStr j1))]⟩) (
 .r 2 1 100 [0, 3, 4] [] <|
 .s (.own 3 100 9 1 (gT fStr [])) <|
 .s (.cn [0, 3, 4] [100]) <|
 .lp 3 (fun j2 : (Int × List ByteArray) => ⟨[(0, .c (.d (.ro 10 p0.length (gT fS_Event p0)))), (3, .c (.nm 100)), (4, xi j2.1)], [(100, .rows 9 1 j2.2.length (gT fStr j2.2))]⟩) (0, ([] : List ByteArray)) fun j2 =>
 .r 3 4 101 [0, 3, 4, 9] [100] <|
 .cond 2 (
 .sq 2 (fun j3 : (List ByteArray) => ⟨[(0, .c (.d (.ro 10 p0.length (gT fS_Event p0)))), (3, .c (.nm 100)), (4, xi j2.1)], [(100, .rows 9 1 j3.length (gT fStr j3))]⟩) (
 .r 3 1 101 [0, 3, 4, 5] [100] <|
 .s (.cn [0, 3, 4, 5] [100]) <|
 .lp 3 (fun j4 : (Int × List ByteArray) => ⟨[(0, .c (.d (.ro 10 p0.length (gT fS_Event p0)))), (3, .c (.nm 100)), (4, xi j2.1), (5, xi j4.1)], [(100, .rows 9 1 j4.2.length (gT fStr j4.2))]⟩) (0, j2.2) fun j4 =>
 .gd ((0 : Int) ≤ j2.1 ∧ j2.1 < (p0.length : Int)) fun g1 =>
 .rp 3 8 101 [0, 3, 4, 5, 19] [100] (some (((0 : Int) ≤ j2.1 ∧ j2.1 < (p0.length : Int)))) (ob1 g1) <|
 .cond 2 (
 .gd ((0 : Int) ≤ j4.1 ∧ j4.1 < (((p0.getD (Int.toNat j2.1) default).Fields).length : Int)) fun g2 =>
 .rp 5 11 101 [0, 4, 5, 22, 32] [100] (some ((((0 : Int) ≤ j2.1 ∧ j2.1 < (p0.length : Int)) ∧ ((0 : Int) ≤ j4.1 ∧ j4.1 < (((p0.getD (Int.toNat j2.1) default).Fields).length : Int))))) (ob1 (⟨g1, g2⟩)) <|
 .gd ((j4.2.length + ([(((p0.getD (Int.toNat j2.1) default).Fields).getD (Int.toNat j4.1) default).Name] : List ByteArray).length) * 16 ≤ 140737488355328) fun g3 =>
 .s (.appL fStr (j4.2) (([(((p0.getD (Int.toNat j2.1) default).Fields).getD (Int.toNat j4.1) default).Name] : List ByteArray)) (gT fStr j4.2) (.inr rfl) 9 1 16 101 g3) <|
 .r 0 1 102 [0, 3, 4, 5] [101] <|
 .bh ((j4.2 ++ ([(((p0.getD (Int.toNat j2.1) default).Fields).getD (Int.toNat j4.1) default).Name] : List ByteArray))) 101 (fun x4 => .rows 9 1 x4.length (gT fStr x4)) fun x4 =>
 .r 4 3 102 [0, 3, 4, 5] [101] <|
 .s (.cn [0, 3, 4, 5] [101]) <|
 .s (.rn 101 100) <|
 .lf 1 [0, 3, 4, 5] [100] (.inl ((IntKind.wrap .i64 (j4.1 + 1)), x4))
 ) (
 .lf 1 [0, 3, 4] [100] (.inr (.inl j4.2))
 )
 ) fun j3 =>
 .r 1 3 102 [0, 3, 4] [100] <|
 .lf 1 [0, 3, 4] [100] (.inl ((IntKind.wrap .i64 (j2.1 + 1)), j3))
 ) (
 .lf 1 [3] [100] (.inr (.inl j2.2))
 )
 ) fun j1 =>
 .r 2 1 102 [34] [100] <|
 .bind (F_r23_Distinct j1) fun r5 hr5 =>
 .s (.call [(60, 100)] [(900, 102)] (Spec.lend 60 9 1 j1.length (gT fStr j1) _ (c_r23_Distinct hr5) (args := [.c (.nm 60)]) rfl rfl rfl (by repeat (first | trivial | refine ⟨fun _ _ => ⟨_, rfl⟩, ?_⟩)))) <|
 .r 0 1 103 [2] [102] <|
 .s (.rn 102 900) <|
 .lf 3 [2] [900] r5
/-- logtide/logtideref27.names -/
theorem c_r27_names {p0 : List S_Event} {r : List ByteArray} (h : F_r27_names p0 = some r) : Spec Tryz.prog 71 [.c (.d (.ro 10 p0.length (gT fS_Event p0)))] [] (.c (.nm 900)) [(900, .rows 9 1 r.length (gT fStr r))] :=
  Cert.spec [900] (fun r : List ByteArray => .c (.nm 900)) (fun r => [(900, .rows 9 1 r.length (gT fStr r))]) (z_r27_names p0) Tryz.func71 rfl (by kernel_rfl) h
noncomputable def L_r27_Check_2 (p0 : List S_Event) (j2 : Int) : Option ((Int) ⊕ ((Unit) ⊕ (Int))) :=
 cond (decide (j2 < (p0.length : Int))) (
 gd ((0 : Int) ≤ j2 ∧ j2 < (p0.length : Int)) (
 bnd (F_r12_Check (p0.getD (Int.toNat j2) default)) fun r2 =>
 cond (r2 != 0) (
 some (.inr (.inr (r2)))) (
 some (.inl (IntKind.wrap .i64 (j2 + 1)))))) (
 some (.inr (.inl ())))
noncomputable def L_r27_Check_4 (p0 : List S_Event) (j4 : Int) : Option ((Int) ⊕ ((Unit) ⊕ (Int))) :=
 cond (decide (j4 < (p0.length : Int))) (
 gd ((0 : Int) ≤ (IntKind.wrap .i64 (j4 - 1)) ∧ (IntKind.wrap .i64 (j4 - 1)) < (p0.length : Int)) (
 gd ((0 : Int) ≤ j4 ∧ j4 < (p0.length : Int)) (
 bnd (F_r12_Less (p0.getD (Int.toNat (IntKind.wrap .i64 (j4 - 1))) default) (p0.getD (Int.toNat j4) default)) fun r5 =>
 cond (!r5) (
 some (.inr (.inr (19)))) (
 some (.inl (IntKind.wrap .i64 (j4 + 1))))))) (
 some (.inr (.inl ())))
noncomputable def F_r27_Check (p0 : List S_Event) : Option (Int) :=
 cond (decide ((p0.length : Int) > 256)) (
 some 4) (
 bindE (σ := (Unit)) (
 loop (L_r27_Check_2 p0) 0) fun j1 =>
 bindE (σ := (Unit)) (
 loop (L_r27_Check_4 p0) 1) fun j3 =>
 bnd (F_r27_words p0) fun r6 =>
 bnd (cond (!(decide ((r6.length : Int) > 32768))) (F_r27_names p0) (some ([] : List ByteArray))) fun r7 =>
 cond (cond (decide ((r6.length : Int) > 32768)) true (decide ((r7.length : Int) > 32768))) (
 some 4) (
 some 0))
noncomputable def z_r27_Check (p0 : List S_Event) : Cert Tryz.prog 50 (Int) :=
 .r 2 1 100 [0] [] <|
 .r 5 3 100 [0, 8] [] <|
 .cond 2 (
 .r 2 1 100 [2] [] <|
 .lf 3 [2] [] 4
 ) (
 .sq 2 (fun j1 : (Unit) => ⟨[(0, .c (.d (.ro 10 p0.length (gT fS_Event p0))))], []⟩) (
 .r 2 1 100 [0, 3] [] <|
 .s (.cn [0, 3] []) <|
 .lp 3 (fun j2 : (Int) => ⟨[(0, .c (.d (.ro 10 p0.length (gT fS_Event p0)))), (3, xi j2)], []⟩) 0 fun j2 =>
 .r 3 4 100 [0, 3, 12] [] <|
 .cond 2 (
 .gd ((0 : Int) ≤ j2 ∧ j2 < (p0.length : Int)) fun g1 =>
 .rp 6 4 100 [0, 3, 18] [] (some (((0 : Int) ≤ j2 ∧ j2 < (p0.length : Int)))) (ob1 g1) <|
 .bind (F_r12_Check (p0.getD (Int.toNat j2) default)) fun r2 hr2 =>
 .s (.call [] [] (c_r12_Check hr2)) <|
 .r 0 1 100 [0, 3, 4] [] <|
 .r 4 2 100 [0, 3, 4, 21] [] <|
 .cond 2 (
 .r 2 2 100 [2] [] <|
 .lf 3 [2] [] (.inr (.inr (r2)))
 ) (
 .r 4 3 100 [0, 3] [] <|
 .lf 1 [0, 3] [] (.inl (IntKind.wrap .i64 (j2 + 1)))
 )
 ) (
 .lf 1 [0] [] (.inr (.inl ()))
 )
 ) fun j1 =>
 .sq 0 (fun j3 : (Unit) => ⟨[(0, .c (.d (.ro 10 p0.length (gT fS_Event p0))))], []⟩) (
 .r 2 1 100 [0, 5] [] <|
 .s (.cn [0, 5] []) <|
 .lp 3 (fun j4 : (Int) => ⟨[(0, .c (.d (.ro 10 p0.length (gT fS_Event p0)))), (5, xi j4)], []⟩) 1 fun j4 =>
 .r 3 4 100 [0, 5, 26] [] <|
 .cond 2 (
 .s (.cn [0, 5] []) <|
 .gd ((0 : Int) ≤ (IntKind.wrap .i64 (j4 - 1)) ∧ (IntKind.wrap .i64 (j4 - 1)) < (p0.length : Int)) fun g3 =>
 .gd ((0 : Int) ≤ j4 ∧ j4 < (p0.length : Int)) fun g4 =>
 .bind (F_r12_Less (p0.getD (Int.toNat (IntKind.wrap .i64 (j4 - 1))) default) (p0.getD (Int.toNat j4) default)) fun r5 hr5 =>
 .m 5 <|
 .s (.dr [.call 9 [] [] (c_r12_Less hr5)] ([(3, some (((0 : Int) ≤ (IntKind.wrap .i64 (j4 - 1)) ∧ (IntKind.wrap .i64 (j4 - 1)) < (p0.length : Int)))), (7, some (((0 : Int) ≤ j4 ∧ j4 < (p0.length : Int))))]) (obsAll.cons (ob1 g3) (obsAll.cons (ob1 g4) obsAll.nil)) [0, 5, 39] []) <|
 .cond 2 (
 .r 2 1 100 [2] [] <|
 .lf 3 [2] [] (.inr (.inr (19)))
 ) (
 .r 4 3 100 [0, 5] [] <|
 .lf 1 [0, 5] [] (.inl (IntKind.wrap .i64 (j4 + 1)))
 )
 ) (
 .lf 1 [0] [] (.inr (.inl ()))
 )
 ) fun j3 =>
 .r 3 1 100 [0, 40] [] <|
 .bind (F_r27_words p0) fun r6 hr6 =>
 .s (.call [] [(900, 100)] (c_r27_words hr6)) <|
 .r 0 4 101 [44, 45] [] <|
 .callG (!(decide ((r6.length : Int) > 32768))) (F_r27_names p0) ([] : List ByteArray) [] (some (((!(decide ((r6.length : Int) > 32768))) = true → (!(decide ((r6.length : Int) > 32768))) = true))) (ob1 (fun h => h)) (fun r h => ((c_r27_names h).frz 900 9 1 _ _ _ _ rfl rfl rfl)) fun r7 =>
 .rp 0 3 101 [49] [] (let u1 := (decide ((r6.length : Int) > 32768)); some ((((!u1) = true → (!u1) = true) ∧ (((!u1) = true → (!u1) = true) ∧ (u1 = false → (!u1) = true))))) (ob1 (⟨fun h => h, ⟨fun h => h, (fun h => by rw [h]; rfl)⟩⟩)) <|
 .cond 2 (
 .r 2 1 101 [2] [] <|
 .lf 3 [2] [] 4
 ) (
 .r 4 1 101 [2] [] <|
 .lf 3 [2] [] 0
 )
 )
/-- logtide/logtideref27.Check -/
theorem c_r27_Check {p0 : List S_Event} {r : Int} (h : F_r27_Check p0 = some r) : Spec Tryz.prog 47 [.c (.d (.ro 10 p0.length (gT fS_Event p0)))] [] (xi r) [] :=
  Cert.spec [] (fun r : Int => xi r) (fun r => []) (z_r27_Check p0) Tryz.func47 rfl (by kernel_rfl) h
noncomputable def L_r27_Put_2 (p1 : Int) (j2 : Int × List Int) : Option ((Int × List Int) ⊕ ((List Int) ⊕ (List Int))) :=
 cond (decide (j2.1 ≥ 0)) (
 gd ((0 : Int) ≤ (IntKind.wrap .i64 (8 * j2.1))) (
 gd ((j2.2.length + ([(IntKind.wrap .u8 ((Int.fdiv p1 (2 ^ (min (Int.toNat (IntKind.wrap .i64 (8 * j2.1))) 64)))))] : List Int).length) * 1 ≤ 140737488355328) (
 bd (j2.2 ++ ([(IntKind.wrap .u8 ((Int.fdiv p1 (2 ^ (min (Int.toNat (IntKind.wrap .i64 (8 * j2.1))) 64)))))] : List Int)) fun x3 =>
 some (.inl ((IntKind.wrap .i64 (j2.1 - 1)), x3))))) (
 some (.inr (.inl j2.2)))
noncomputable def F_r27_Put (p0 : List Int) (p1 : Int) (p2 : Int) : Option (List Int) :=
 bindE (σ := (List Int)) (
 loop (L_r27_Put_2 p1) ((IntKind.wrap .i64 (p2 - 1)), p0)) fun j1 =>
 some j1
noncomputable def z_r27_Put (p0 : List Int) (p1 : Int) (p2 : Int) : Cert Tryz.prog 23 (List Int) :=
 .s (.rn 1 100) <|
 .r 2 1 101 [0, 1, 2] [100] <|
 .sq 2 (fun j1 : (List Int) => ⟨[(0, .c (.nm 100))], [(100, .rows 5 1 j1.length (gT (fInt .u8) j1))]⟩) (
 .r 2 3 101 [0, 1, 7] [100] <|
 .s (.cn [0, 1, 7] [100]) <|
 .lp 3 (fun j2 : (Int × List Int) => ⟨[(0, .c (.nm 100)), (1, .c (.d (.v (.int .u64 p1)))), (7, xi j2.1)], [(100, .rows 5 1 j2.2.length (gT (fInt .u8) j2.2))]⟩) ((IntKind.wrap .i64 (p2 - 1)), p0) fun j2 =>
 .r 3 2 101 [0, 1, 7, 11] [100] <|
 .cond 2 (
 .gd ((0 : Int) ≤ (IntKind.wrap .i64 (8 * j2.1))) fun g1 =>
 .rp 5 7 101 [1, 7, 14, 20] [100] (some (((0 : Int) ≤ (IntKind.wrap .i64 (8 * j2.1))))) (ob1 g1) <|
 .gd ((j2.2.length + ([(IntKind.wrap .u8 ((Int.fdiv p1 (2 ^ (min (Int.toNat (IntKind.wrap .i64 (8 * j2.1))) 64)))))] : List Int).length) * 1 ≤ 140737488355328) fun g2 =>
 .s (.appL (fInt .u8) (j2.2) (([(IntKind.wrap .u8 ((Int.fdiv p1 (2 ^ (min (Int.toNat (IntKind.wrap .i64 (8 * j2.1))) 64)))))] : List Int)) (gT (fInt .u8) j2.2) (.inr rfl) 5 1 1 101 g2) <|
 .r 0 1 102 [0, 1, 7] [101] <|
 .bh ((j2.2 ++ ([(IntKind.wrap .u8 ((Int.fdiv p1 (2 ^ (min (Int.toNat (IntKind.wrap .i64 (8 * j2.1))) 64)))))] : List Int))) 101 (fun x3 => .rows 5 1 x3.length (gT (fInt .u8) x3)) fun x3 =>
 .r 4 3 102 [0, 1, 7] [101] <|
 .s (.cn [0, 1, 7] [101]) <|
 .s (.rn 101 100) <|
 .lf 1 [0, 1, 7] [100] (.inl ((IntKind.wrap .i64 (j2.1 - 1)), x3))
 ) (
 .lf 1 [0] [100] (.inr (.inl j2.2))
 )
 ) fun j1 =>
 .r 2 2 102 [6] [100] <|
 .s (.rn 100 900) <|
 .lf 3 [6] [900] j1
/-- logtide/logtideref27.Put -/
theorem c_r27_Put {p0 : List Int} {p1 : Int} {p2 : Int} {r : List Int} (h : F_r27_Put p0 p1 p2 = some r) : Spec Tryz.prog 48 [.c (.nm 1), .c (.d (.v (.int .u64 p1))), xi p2] [(1, .rows 5 1 p0.length (gT (fInt .u8) p0))] (.c (.nm 900)) [(900, .rows 5 1 r.length (gT (fInt .u8) r))] :=
  Cert.spec [900] (fun r : List Int => .c (.nm 900)) (fun r => [(900, .rows 5 1 r.length (gT (fInt .u8) r))]) (z_r27_Put p0 p1 p2) Tryz.func48 rfl (by kernel_rfl) h
noncomputable def L_r23_PutVarint_2 (j2 : Int × List Int) : Option ((Int × List Int) ⊕ ((Int × List Int) ⊕ (List Int))) :=
 cond (decide (j2.1 ≥ 128)) (
 gd ((j2.2.length + ([(IntKind.wrap .u8 ((BitVec.ofInt 8 (IntKind.wrap .u8 (j2.1)) ||| BitVec.ofInt 8 128).toNat : Int))] : List Int).length) * 1 ≤ 140737488355328) (
 bd (j2.2 ++ ([(IntKind.wrap .u8 ((BitVec.ofInt 8 (IntKind.wrap .u8 (j2.1)) ||| BitVec.ofInt 8 128).toNat : Int))] : List Int)) fun x2 =>
 some (.inl ((Int.fdiv j2.1 (2 ^ (min (Int.toNat 7) 64))), x2)))) (
 some (.inr (.inl (j2.1, j2.2))))
noncomputable def F_r23_PutVarint (p0 : List Int) (p1 : Int) : Option (List Int) :=
 bindE (σ := (Int × List Int)) (
 loop L_r23_PutVarint_2 (p1, p0)) fun j1 =>
 gd ((j1.2.length + ([(IntKind.wrap .u8 (j1.1))] : List Int).length) * 1 ≤ 140737488355328) (
 some (j1.2 ++ ([(IntKind.wrap .u8 (j1.1))] : List Int)))
noncomputable def z_r23_PutVarint (p0 : List Int) (p1 : Int) : Cert Tryz.prog 20 (List Int) :=
 .s (.rn 1 100) <|
 .r 2 1 101 [0, 1] [100] <|
 .sq 2 (fun j1 : (Int × List Int) => ⟨[(0, .c (.nm 100)), (1, .c (.d (.v (.int .u64 j1.1))))], [(100, .rows 5 1 j1.2.length (gT (fInt .u8) j1.2))]⟩) (
 .s (.cn [0, 1] [100]) <|
 .lp 1 (fun j2 : (Int × List Int) => ⟨[(0, .c (.nm 100)), (1, .c (.d (.v (.int .u64 j2.1))))], [(100, .rows 5 1 j2.2.length (gT (fInt .u8) j2.2))]⟩) (p1, p0) fun j2 =>
 .r 3 2 101 [0, 1, 6] [100] <|
 .cond 2 (
 .r 5 5 101 [1, 7, 11] [100] <|
 .gd ((j2.2.length + ([(IntKind.wrap .u8 ((BitVec.ofInt 8 (IntKind.wrap .u8 (j2.1)) ||| BitVec.ofInt 8 128).toNat : Int))] : List Int).length) * 1 ≤ 140737488355328) fun g1 =>
 .s (.appL (fInt .u8) (j2.2) (([(IntKind.wrap .u8 ((BitVec.ofInt 8 (IntKind.wrap .u8 (j2.1)) ||| BitVec.ofInt 8 128).toNat : Int))] : List Int)) (gT (fInt .u8) j2.2) (.inr rfl) 5 1 1 101 g1) <|
 .r 0 1 102 [0, 1] [101] <|
 .bh ((j2.2 ++ ([(IntKind.wrap .u8 ((BitVec.ofInt 8 (IntKind.wrap .u8 (j2.1)) ||| BitVec.ofInt 8 128).toNat : Int))] : List Int))) 101 (fun x2 => .rows 5 1 x2.length (gT (fInt .u8) x2)) fun x2 =>
 .rp 3 3 102 [0, 1] [101] (some (((0 : Int) ≤ (7 : Int)))) (ob1 (by decide)) <|
 .s (.cn [0, 1] [101]) <|
 .s (.rn 101 100) <|
 .lf 1 [0, 1] [100] (.inl ((Int.fdiv j2.1 (2 ^ (min (Int.toNat 7) 64))), x2))
 ) (
 .lf 1 [0, 1] [100] (.inr (.inl (j2.1, j2.2)))
 )
 ) fun j1 =>
 .r 2 4 102 [15, 18] [100] <|
 .gd ((j1.2.length + ([(IntKind.wrap .u8 (j1.1))] : List Int).length) * 1 ≤ 140737488355328) fun g3 =>
 .s (.appL (fInt .u8) (j1.2) (([(IntKind.wrap .u8 (j1.1))] : List Int)) (gT (fInt .u8) j1.2) (.inr rfl) 5 1 1 102 g3) <|
 .r 0 1 103 [4] [102] <|
 .s (.rn 102 900) <|
 .lf 3 [4] [900] (j1.2 ++ ([(IntKind.wrap .u8 (j1.1))] : List Int))
/-- logtide/logtideref23.PutVarint -/
theorem c_r23_PutVarint {p0 : List Int} {p1 : Int} {r : List Int} (h : F_r23_PutVarint p0 p1 = some r) : Spec Tryz.prog 118 [.c (.nm 1), .c (.d (.v (.int .u64 p1)))] [(1, .rows 5 1 p0.length (gT (fInt .u8) p0))] (.c (.nm 900)) [(900, .rows 5 1 r.length (gT (fInt .u8) r))] :=
  Cert.spec [900] (fun r : List Int => .c (.nm 900)) (fun r => [(900, .rows 5 1 r.length (gT (fInt .u8) r))]) (z_r23_PutVarint p0 p1) Tryz.func118 rfl (by kernel_rfl) h
noncomputable def F_r24_Zigzag (p0 : Int) : Option (Int) :=
 bd (IntKind.wrap .u64 ((BitVec.ofInt 64 (IntKind.wrap .u64 ((IntKind.wrap .u64 (p0)) * 2 ^ (min (Int.toNat 1) 64))) ^^^ BitVec.ofInt 64 (IntKind.wrap .u64 ((Int.fdiv p0 (2 ^ (min (Int.toNat 63) 64)))))).toNat : Int)) fun x1 =>
 some x1
noncomputable def z_r24_Zigzag (p0 : Int) : Cert Tryz.prog 10 (Int) :=
 .r 2 1 100 [0] [] <|
 .rp 4 8 100 [2] [] (some ((((0 : Int) ≤ (1 : Int)) ∧ ((0 : Int) ≤ (63 : Int))))) (ob1 (⟨(by decide), (by decide)⟩)) <|
 .bs ((IntKind.wrap .u64 ((BitVec.ofInt 64 (IntKind.wrap .u64 ((IntKind.wrap .u64 (p0)) * 2 ^ (min (Int.toNat 1) 64))) ^^^ BitVec.ofInt 64 (IntKind.wrap .u64 ((Int.fdiv p0 (2 ^ (min (Int.toNat 63) 64)))))).toNat : Int))) [2] (fun x1 => .c (.d (.v (.int .u64 x1)))) fun x1 =>
 .lf 3 [2] [] x1
/-- logtide/logtideref24.Zigzag -/
theorem c_r24_Zigzag {p0 : Int} {r : Int} (h : F_r24_Zigzag p0 = some r) : Spec Tryz.prog 138 [xi p0] [] (.c (.d (.v (.int .u64 r)))) [] :=
  Cert.spec [] (fun r : Int => .c (.d (.v (.int .u64 r)))) (fun r => []) (z_r24_Zigzag p0) Tryz.func138 rfl (by kernel_rfl) h
noncomputable def F_r24_PutInt (p0 : List Int) (p1 : Int) : Option (List Int) :=
 bnd (F_r24_Zigzag p1) fun r1 =>
 bnd (F_r23_PutVarint p0 r1) fun r2 =>
 some r2
noncomputable def z_r24_PutInt (p0 : List Int) (p1 : Int) : Cert Tryz.prog 9 (List Int) :=
 .s (.rn 1 100) <|
 .r 2 1 101 [0, 1] [100] <|
 .r 4 2 101 [5, 6] [100] <|
 .bind (F_r24_Zigzag p1) fun r1 hr1 =>
 .s (.call [] [] (c_r24_Zigzag hr1)) <|
 .r 0 0 101 [5, 7] [100] <|
 .bind (F_r23_PutVarint p0 r1) fun r2 hr2 =>
 .s (.call [(1, 100)] [(900, 101)] (c_r23_PutVarint hr2)) <|
 .r 0 1 102 [4] [101] <|
 .s (.rn 101 900) <|
 .lf 3 [4] [900] r2
/-- logtide/logtideref24.PutInt -/
theorem c_r24_PutInt {p0 : List Int} {p1 : Int} {r : List Int} (h : F_r24_PutInt p0 p1 = some r) : Spec Tryz.prog 134 [.c (.nm 1), xi p1] [(1, .rows 5 1 p0.length (gT (fInt .u8) p0))] (.c (.nm 900)) [(900, .rows 5 1 r.length (gT (fInt .u8) r))] :=
  Cert.spec [900] (fun r : List Int => .c (.nm 900)) (fun r => [(900, .rows 5 1 r.length (gT (fInt .u8) r))]) (z_r24_PutInt p0 p1) Tryz.func134 rfl (by kernel_rfl) h
noncomputable def L_r24_Bounds_2 (p0 : List Int) (j2 : Int × Int × Int) : Option ((Int × Int × Int) ⊕ ((Int × Int) ⊕ (Int × Int × Bool))) :=
 cond (decide (j2.2.2 < (p0.length : Int))) (
 gd ((0 : Int) ≤ j2.2.2 ∧ j2.2.2 < (p0.length : Int)) (
 bd (if (p0.getD (Int.toNat j2.2.2) default) < j2.1 then (p0.getD (Int.toNat j2.2.2) default) else j2.1) fun x3 =>
 bd (if (p0.getD (Int.toNat j2.2.2) default) > j2.2.1 then (p0.getD (Int.toNat j2.2.2) default) else j2.2.1) fun x4 =>
 some (.inl (x3, x4, (IntKind.wrap .i64 (j2.2.2 + 1)))))) (
 some (.inr (.inl (j2.1, j2.2.1))))
noncomputable def F_r24_Bounds (p0 : List Int) : Option (Int × Int × Bool) :=
 cond ((p0.length : Int) == 0) (
 some (0, 0, false)) (
 gd ((0 : Int) ≤ 0 ∧ 0 < (p0.length : Int)) (
 bindE (σ := (Int × Int)) (
 loop (L_r24_Bounds_2 p0) ((p0.getD 0 default), (p0.getD 0 default), 0)) fun j1 =>
 some (j1.1, j1.2, true)))
noncomputable def z_r24_Bounds (p0 : List Int) : Cert Tryz.prog 37 (Int × Int × Bool) :=
 .r 2 3 100 [0] [] <|
 .r 5 3 100 [0, 10] [] <|
 .cond 2 (
 .r 2 3 100 [2, 3, 4] [] <|
 .lf 3 [2, 3, 4] [] (0, 0, false)
 ) (
 .s (.cn [0] []) <|
 .gd ((0 : Int) ≤ 0 ∧ 0 < (p0.length : Int)) fun g1 =>
 .m 3 <|
 .s (.dr [] ([(1, some (((0 : Int) ≤ 0 ∧ 0 < (p0.length : Int)))), (4, some (((0 : Int) ≤ 0 ∧ 0 < (p0.length : Int))))]) (obsAll.cons (ob1 g1) (obsAll.cons (ob1 g1) obsAll.nil)) [0, 5, 6] []) <|
 .sq 2 (fun j1 : (Int × Int) => ⟨[(5, xi j1.1), (6, xi j1.2)], []⟩) (
 .r 2 1 100 [0, 5, 6, 7] [] <|
 .s (.cn [0, 5, 6, 7] []) <|
 .lp 3 (fun j2 : (Int × Int × Int) => ⟨[(0, .c (.d (.ro 1 p0.length (gT (fInt .i64) p0)))), (5, xi j2.1), (6, xi j2.2.1), (7, xi j2.2.2)], []⟩) ((p0.getD 0 default), (p0.getD 0 default), 0) fun j2 =>
 .r 3 4 100 [0, 5, 6, 7, 20] [] <|
 .cond 2 (
 .s (.cn [0, 5, 6, 7] []) <|
 .gd ((0 : Int) ≤ j2.2.2 ∧ j2.2.2 < (p0.length : Int)) fun g2 =>
 .m 4 <|
 .s (.dr [] ([(3, some (((0 : Int) ≤ j2.2.2 ∧ j2.2.2 < (p0.length : Int)))), (9, some (((0 : Int) ≤ j2.2.2 ∧ j2.2.2 < (p0.length : Int))))]) (obsAll.cons (ob1 g2) (obsAll.cons (ob1 g2) obsAll.nil)) [0, 5, 6, 7] []) <|
 .bs ((if (p0.getD (Int.toNat j2.2.2) default) < j2.1 then (p0.getD (Int.toNat j2.2.2) default) else j2.1)) [5] xi fun x3 =>
 .bs ((if (p0.getD (Int.toNat j2.2.2) default) > j2.2.1 then (p0.getD (Int.toNat j2.2.2) default) else j2.2.1)) [6] xi fun x4 =>
 .r 4 3 100 [0, 5, 6, 7] [] <|
 .lf 1 [0, 5, 6, 7] [] (.inl (x3, x4, (IntKind.wrap .i64 (j2.2.2 + 1))))
 ) (
 .lf 1 [5, 6] [] (.inr (.inl (j2.1, j2.2.1)))
 )
 ) fun j1 =>
 .r 2 5 100 [2, 3, 4] [] <|
 .lf 3 [2, 3, 4] [] (j1.1, j1.2, true)
 )
/-- logtide/logtideref24.Bounds -/
theorem c_r24_Bounds {p0 : List Int} {r : Int × Int × Bool} (h : F_r24_Bounds p0 = some r) : Spec Tryz.prog 136 [.c (.d (.ro 1 p0.length (gT (fInt .i64) p0)))] [] (.tup [xi r.1, xi r.2.1, xb r.2.2]) [] :=
  Cert.spec [] (fun r : Int × Int × Bool => .tup [xi r.1, xi r.2.1, xb r.2.2]) (fun r => []) (z_r24_Bounds p0) Tryz.func136 rfl (by kernel_rfl) h
noncomputable def F_math_bits_Len64 (p0 : Int) : Option (Int) :=
 bindE (σ := (Int × Int)) (
 cond (decide (p0 ≥ 4294967296)) (
 some (.inl ((Int.fdiv p0 (2 ^ (min (Int.toNat 32) 64))), 32))) (
 some (.inl (p0, 0)))) fun j1 =>
 bindE (σ := (Int × Int)) (
 cond (decide (j1.1 ≥ 65536)) (
 some (.inl ((Int.fdiv j1.1 (2 ^ (min (Int.toNat 16) 64))), (IntKind.wrap .i64 (j1.2 + 16))))) (
 some (.inl (j1.1, j1.2)))) fun j2 =>
 bindE (σ := (Int × Int)) (
 cond (decide (j2.1 ≥ 256)) (
 some (.inl ((Int.fdiv j2.1 (2 ^ (min (Int.toNat 8) 64))), (IntKind.wrap .i64 (j2.2 + 8))))) (
 some (.inl (j2.1, j2.2)))) fun j3 =>
 gd ((0 : Int) ≤ (IntKind.wrap .u8 (j3.1)) ∧ (IntKind.wrap .u8 (j3.1)) < ((ByteArray.mk #[0, 1, 2, 2, 3, 3, 3, 3, 4, 4, 4, 4, 4, 4, 4, 4, 5, 5, 5, 5, 5, 5, 5, 5, 5, 5, 5, 5, 5, 5, 5, 5, 6, 6, 6, 6, 6, 6, 6, 6, 6, 6, 6, 6, 6, 6, 6, 6, 6, 6, 6, 6, 6, 6, 6, 6, 6, 6, 6, 6, 6, 6, 6, 6, 7, 7, 7, 7, 7, 7, 7, 7, 7, 7, 7, 7, 7, 7, 7, 7, 7, 7, 7, 7, 7, 7, 7, 7, 7, 7, 7, 7, 7, 7, 7, 7, 7, 7, 7, 7, 7, 7, 7, 7, 7, 7, 7, 7, 7, 7, 7, 7, 7, 7, 7, 7, 7, 7, 7, 7, 7, 7, 7, 7, 7, 7, 7, 7, 8, 8, 8, 8, 8, 8, 8, 8, 8, 8, 8, 8, 8, 8, 8, 8, 8, 8, 8, 8, 8, 8, 8, 8, 8, 8, 8, 8, 8, 8, 8, 8, 8, 8, 8, 8, 8, 8, 8, 8, 8, 8, 8, 8, 8, 8, 8, 8, 8, 8, 8, 8, 8, 8, 8, 8, 8, 8, 8, 8, 8, 8, 8, 8, 8, 8, 8, 8, 8, 8, 8, 8, 8, 8, 8, 8, 8, 8, 8, 8, 8, 8, 8, 8, 8, 8, 8, 8, 8, 8, 8, 8, 8, 8, 8, 8, 8, 8, 8, 8, 8, 8, 8, 8, 8, 8, 8, 8, 8, 8, 8, 8, 8, 8, 8, 8, 8, 8, 8, 8, 8, 8, 8, 8, 8, 8, 8, 8]).size : Int)) (
 bd (IntKind.wrap .i64 (j3.2 + (IntKind.wrap .i64 ((bt (ByteArray.mk #[0, 1, 2, 2, 3, 3, 3, 3, 4, 4, 4, 4, 4, 4, 4, 4, 5, 5, 5, 5, 5, 5, 5, 5, 5, 5, 5, 5, 5, 5, 5, 5, 6, 6, 6, 6, 6, 6, 6, 6, 6, 6, 6, 6, 6, 6, 6, 6, 6, 6, 6, 6, 6, 6, 6, 6, 6, 6, 6, 6, 6, 6, 6, 6, 7, 7, 7, 7, 7, 7, 7, 7, 7, 7, 7, 7, 7, 7, 7, 7, 7, 7, 7, 7, 7, 7, 7, 7, 7, 7, 7, 7, 7, 7, 7, 7, 7, 7, 7, 7, 7, 7, 7, 7, 7, 7, 7, 7, 7, 7, 7, 7, 7, 7, 7, 7, 7, 7, 7, 7, 7, 7, 7, 7, 7, 7, 7, 7, 8, 8, 8, 8, 8, 8, 8, 8, 8, 8, 8, 8, 8, 8, 8, 8, 8, 8, 8, 8, 8, 8, 8, 8, 8, 8, 8, 8, 8, 8, 8, 8, 8, 8, 8, 8, 8, 8, 8, 8, 8, 8, 8, 8, 8, 8, 8, 8, 8, 8, 8, 8, 8, 8, 8, 8, 8, 8, 8, 8, 8, 8, 8, 8, 8, 8, 8, 8, 8, 8, 8, 8, 8, 8, 8, 8, 8, 8, 8, 8, 8, 8, 8, 8, 8, 8, 8, 8, 8, 8, 8, 8, 8, 8, 8, 8, 8, 8, 8, 8, 8, 8, 8, 8, 8, 8, 8, 8, 8, 8, 8, 8, 8, 8, 8, 8, 8, 8, 8, 8, 8, 8, 8, 8, 8, 8, 8, 8]) (IntKind.wrap .u8 (j3.1))))))) fun x2 =>
 some x2)
noncomputable def z_math_bits_Len64 (p0 : Int) : Cert Tryz.prog 25 (Int) :=
 .r 2 1 100 [0, 2] [] <|
 .sq 2 (fun j1 : (Int × Int) => ⟨[(0, .c (.d (.v (.int .u64 j1.1)))), (2, xi j1.2)], []⟩) (
 .r 2 2 100 [0, 2, 4] [] <|
 .cond 2 (
 .rp 2 3 100 [0] [] (some (((0 : Int) ≤ (32 : Int)))) (ob1 (by decide)) <|
 .r 3 1 100 [0, 2] [] <|
 .lf 1 [0, 2] [] (.inl ((Int.fdiv p0 (2 ^ (min (Int.toNat 32) 64))), 32))
 ) (
 .lf 1 [0, 2] [] (.inl (p0, 0))
 )
 ) fun j1 =>
 .sq 0 (fun j2 : (Int × Int) => ⟨[(0, .c (.d (.v (.int .u64 j2.1)))), (2, xi j2.2)], []⟩) (
 .r 2 2 100 [0, 2, 8] [] <|
 .cond 2 (
 .rp 2 3 100 [0, 2] [] (some (((0 : Int) ≤ (16 : Int)))) (ob1 (by decide)) <|
 .r 3 3 100 [0, 2] [] <|
 .lf 1 [0, 2] [] (.inl ((Int.fdiv j1.1 (2 ^ (min (Int.toNat 16) 64))), (IntKind.wrap .i64 (j1.2 + 16))))
 ) (
 .lf 1 [0, 2] [] (.inl (j1.1, j1.2))
 )
 ) fun j2 =>
 .sq 0 (fun j3 : (Int × Int) => ⟨[(0, .c (.d (.v (.int .u64 j3.1)))), (2, xi j3.2)], []⟩) (
 .r 2 2 100 [0, 2, 14] [] <|
 .cond 2 (
 .rp 2 3 100 [0, 2] [] (some (((0 : Int) ≤ (8 : Int)))) (ob1 (by decide)) <|
 .r 3 3 100 [0, 2] [] <|
 .lf 1 [0, 2] [] (.inl ((Int.fdiv j2.1 (2 ^ (min (Int.toNat 8) 64))), (IntKind.wrap .i64 (j2.2 + 8))))
 ) (
 .lf 1 [0, 2] [] (.inl (j2.1, j2.2))
 )
 ) fun j3 =>
 .gd ((0 : Int) ≤ (IntKind.wrap .u8 (j3.1)) ∧ (IntKind.wrap .u8 (j3.1)) < ((ByteArray.mk #[0, 1, 2, 2, 3, 3, 3, 3, 4, 4, 4, 4, 4, 4, 4, 4, 5, 5, 5, 5, 5, 5, 5, 5, 5, 5, 5, 5, 5, 5, 5, 5, 6, 6, 6, 6, 6, 6, 6, 6, 6, 6, 6, 6, 6, 6, 6, 6, 6, 6, 6, 6, 6, 6, 6, 6, 6, 6, 6, 6, 6, 6, 6, 6, 7, 7, 7, 7, 7, 7, 7, 7, 7, 7, 7, 7, 7, 7, 7, 7, 7, 7, 7, 7, 7, 7, 7, 7, 7, 7, 7, 7, 7, 7, 7, 7, 7, 7, 7, 7, 7, 7, 7, 7, 7, 7, 7, 7, 7, 7, 7, 7, 7, 7, 7, 7, 7, 7, 7, 7, 7, 7, 7, 7, 7, 7, 7, 7, 8, 8, 8, 8, 8, 8, 8, 8, 8, 8, 8, 8, 8, 8, 8, 8, 8, 8, 8, 8, 8, 8, 8, 8, 8, 8, 8, 8, 8, 8, 8, 8, 8, 8, 8, 8, 8, 8, 8, 8, 8, 8, 8, 8, 8, 8, 8, 8, 8, 8, 8, 8, 8, 8, 8, 8, 8, 8, 8, 8, 8, 8, 8, 8, 8, 8, 8, 8, 8, 8, 8, 8, 8, 8, 8, 8, 8, 8, 8, 8, 8, 8, 8, 8, 8, 8, 8, 8, 8, 8, 8, 8, 8, 8, 8, 8, 8, 8, 8, 8, 8, 8, 8, 8, 8, 8, 8, 8, 8, 8, 8, 8, 8, 8, 8, 8, 8, 8, 8, 8, 8, 8, 8, 8, 8, 8, 8, 8]).size : Int)) fun g1 =>
 .rp 2 7 100 [2] [] (some (((0 : Int) ≤ (IntKind.wrap .u8 (j3.1)) ∧ (IntKind.wrap .u8 (j3.1)) < ((ByteArray.mk #[0, 1, 2, 2, 3, 3, 3, 3, 4, 4, 4, 4, 4, 4, 4, 4, 5, 5, 5, 5, 5, 5, 5, 5, 5, 5, 5, 5, 5, 5, 5, 5, 6, 6, 6, 6, 6, 6, 6, 6, 6, 6, 6, 6, 6, 6, 6, 6, 6, 6, 6, 6, 6, 6, 6, 6, 6, 6, 6, 6, 6, 6, 6, 6, 7, 7, 7, 7, 7, 7, 7, 7, 7, 7, 7, 7, 7, 7, 7, 7, 7, 7, 7, 7, 7, 7, 7, 7, 7, 7, 7, 7, 7, 7, 7, 7, 7, 7, 7, 7, 7, 7, 7, 7, 7, 7, 7, 7, 7, 7, 7, 7, 7, 7, 7, 7, 7, 7, 7, 7, 7, 7, 7, 7, 7, 7, 7, 7, 8, 8, 8, 8, 8, 8, 8, 8, 8, 8, 8, 8, 8, 8, 8, 8, 8, 8, 8, 8, 8, 8, 8, 8, 8, 8, 8, 8, 8, 8, 8, 8, 8, 8, 8, 8, 8, 8, 8, 8, 8, 8, 8, 8, 8, 8, 8, 8, 8, 8, 8, 8, 8, 8, 8, 8, 8, 8, 8, 8, 8, 8, 8, 8, 8, 8, 8, 8, 8, 8, 8, 8, 8, 8, 8, 8, 8, 8, 8, 8, 8, 8, 8, 8, 8, 8, 8, 8, 8, 8, 8, 8, 8, 8, 8, 8, 8, 8, 8, 8, 8, 8, 8, 8, 8, 8, 8, 8, 8, 8, 8, 8, 8, 8, 8, 8, 8, 8, 8, 8, 8, 8, 8, 8, 8, 8, 8, 8]).size : Int)))) (ob1 g1) <|
 .bs ((IntKind.wrap .i64 (j3.2 + (IntKind.wrap .i64 ((bt (ByteArray.mk #[0, 1, 2, 2, 3, 3, 3, 3, 4, 4, 4, 4, 4, 4, 4, 4, 5, 5, 5, 5, 5, 5, 5, 5, 5, 5, 5, 5, 5, 5, 5, 5, 6, 6, 6, 6, 6, 6, 6, 6, 6, 6, 6, 6, 6, 6, 6, 6, 6, 6, 6, 6, 6, 6, 6, 6, 6, 6, 6, 6, 6, 6, 6, 6, 7, 7, 7, 7, 7, 7, 7, 7, 7, 7, 7, 7, 7, 7, 7, 7, 7, 7, 7, 7, 7, 7, 7, 7, 7, 7, 7, 7, 7, 7, 7, 7, 7, 7, 7, 7, 7, 7, 7, 7, 7, 7, 7, 7, 7, 7, 7, 7, 7, 7, 7, 7, 7, 7, 7, 7, 7, 7, 7, 7, 7, 7, 7, 7, 8, 8, 8, 8, 8, 8, 8, 8, 8, 8, 8, 8, 8, 8, 8, 8, 8, 8, 8, 8, 8, 8, 8, 8, 8, 8, 8, 8, 8, 8, 8, 8, 8, 8, 8, 8, 8, 8, 8, 8, 8, 8, 8, 8, 8, 8, 8, 8, 8, 8, 8, 8, 8, 8, 8, 8, 8, 8, 8, 8, 8, 8, 8, 8, 8, 8, 8, 8, 8, 8, 8, 8, 8, 8, 8, 8, 8, 8, 8, 8, 8, 8, 8, 8, 8, 8, 8, 8, 8, 8, 8, 8, 8, 8, 8, 8, 8, 8, 8, 8, 8, 8, 8, 8, 8, 8, 8, 8, 8, 8, 8, 8, 8, 8, 8, 8, 8, 8, 8, 8, 8, 8, 8, 8, 8, 8, 8, 8]) (IntKind.wrap .u8 (j3.1)))))))) [2] xi fun x2 =>
 .lf 3 [2] [] x2
/-- math/bits.Len64 -/
theorem c_math_bits_Len64 {p0 : Int} {r : Int} (h : F_math_bits_Len64 p0 = some r) : Spec Tryz.prog 137 [.c (.d (.v (.int .u64 p0)))] [] (xi r) [] :=
  Cert.spec [] (fun r : Int => xi r) (fun r => []) (z_math_bits_Len64 p0) Tryz.func137 rfl (by kernel_rfl) h
noncomputable def L_r24_pack_4 (r2 : Int) (x9 : Int) (j4 : Int × Int × List Int) : Option ((Int × Int × List Int) ⊕ ((Int × List Int) ⊕ ((Int × Int × List Int) ⊕ ((List Int) ⊕ (List Int))))) :=
 cond (decide (j4.2.1 < r2)) (
 bindE (σ := (List Int)) (
 gd ((0 : Int) ≤ j4.2.1) (
 bd ((IntKind.wrap .u64 ((BitVec.ofInt 64 (Int.fdiv x9 (2 ^ (min (Int.toNat j4.2.1) 64))) &&& BitVec.ofInt 64 1).toNat : Int)) == 1) fun x11 =>
 cond x11 (
 gd ((0 : Int) ≤ (IntKind.wrap .i64 (Int.tdiv j4.1 8)) ∧ (IntKind.wrap .i64 (Int.tdiv j4.1 8)) < (j4.2.2.length : Int)) (
 gd ((0 : Int) ≤ (Int.tmod j4.1 8)) (
 bd (j4.2.2.set (Int.toNat (IntKind.wrap .i64 (Int.tdiv j4.1 8))) (IntKind.wrap .u8 ((BitVec.ofInt 8 (j4.2.2.getD (Int.toNat (IntKind.wrap .i64 (Int.tdiv j4.1 8))) default) ||| BitVec.ofInt 8 (IntKind.wrap .u8 (1 * 2 ^ (min (Int.toNat (Int.tmod j4.1 8)) 8)))).toNat : Int))) fun x14 =>
 some (.inl x14)))) (
 some (.inl j4.2.2)))) fun j5 =>
 some (.inl ((IntKind.wrap .i64 (j4.1 + 1)), (IntKind.wrap .i64 (j4.2.1 + 1)), j5))) (
 some (.inr (.inl (j4.1, j4.2.2))))
noncomputable def L_r24_pack_2 (p1 : List Int) (r1 : Int × Int × Bool) (r2 : Int) (j2 : Int × Int × List Int) : Option ((Int × Int × List Int) ⊕ ((List Int) ⊕ (List Int))) :=
 cond (decide (j2.2.1 < (p1.length : Int))) (
 bindE (σ := (Int × List Int)) (
 gd ((0 : Int) ≤ j2.2.1 ∧ j2.2.1 < (p1.length : Int)) (
 bd (IntKind.wrap .u64 ((IntKind.wrap .u64 ((p1.getD (Int.toNat j2.2.1) default))) - (IntKind.wrap .u64 (r1.1)))) fun x9 =>
 loop (L_r24_pack_4 r2 x9) (j2.1, 0, j2.2.2))) fun j3 =>
 some (.inl (j3.1, (IntKind.wrap .i64 (j2.2.1 + 1)), j3.2))) (
 some (.inr (.inl j2.2.2)))
noncomputable def F_r24_pack (p0 : List Int) (p1 : List Int) : Option (List Int) :=
 cond ((p1.length : Int) == 0) (
 some p0) (
 bnd (F_r24_Bounds p1) fun r1 =>
 bnd (F_math_bits_Len64 (IntKind.wrap .u64 ((IntKind.wrap .u64 (r1.2.1)) - (IntKind.wrap .u64 (r1.1))))) fun r2 =>
 bnd (F_r24_PutInt p0 r1.1) fun r3 =>
 gd ((r3.length + ([(IntKind.wrap .u8 (r2))] : List Int).length) * 1 ≤ 140737488355328) (
 gd ((0 : Int) ≤ (IntKind.wrap .i64 (Int.tdiv (IntKind.wrap .i64 ((IntKind.wrap .i64 ((p1.length : Int) * r2)) + 7)) 8))) (
 gd ((IntKind.wrap .i64 (Int.tdiv (IntKind.wrap .i64 ((IntKind.wrap .i64 ((p1.length : Int) * r2)) + 7)) 8)) * 1 ≤ 140737488355328) (
 bd (List.replicate (Int.toNat (IntKind.wrap .i64 (Int.tdiv (IntKind.wrap .i64 ((IntKind.wrap .i64 ((p1.length : Int) * r2)) + 7)) 8))) (0 : Int)) fun x7 =>
 bindE (σ := (List Int)) (
 loop (L_r24_pack_2 p1 r1 r2) (0, 0, x7)) fun j1 =>
 gd (((r3 ++ ([(IntKind.wrap .u8 (r2))] : List Int)).length + j1.length) * 1 ≤ 140737488355328) (
 some ((r3 ++ ([(IntKind.wrap .u8 (r2))] : List Int)) ++ j1))))))
noncomputable def z_r24_pack (p0 : List Int) (p1 : List Int) : Cert Tryz.prog 83 (List Int) :=
 .s (.rn 1 100) <|
 .r 2 1 101 [0, 1] [100] <|
 .r 5 3 101 [0, 1, 16] [100] <|
 .cond 2 (
 .r 2 2 101 [4] [100] <|
 .s (.rn 100 900) <|
 .lf 3 [4] [900] p0
 ) (
 .r 4 1 101 [0, 1, 19] [100] <|
 .bind (F_r24_Bounds p1) fun r1 hr1 =>
 .s (.call [] [] (c_r24_Bounds hr1)) <|
 .r 0 7 101 [0, 1, 5, 6] [100] <|
 .r 4 5 101 [0, 1, 5, 28] [100] <|
 .bind (F_math_bits_Len64 (IntKind.wrap .u64 ((IntKind.wrap .u64 (r1.2.1)) - (IntKind.wrap .u64 (r1.1))))) fun r2 hr2 =>
 .s (.call [] [] (c_math_bits_Len64 hr2)) <|
 .r 0 1 101 [0, 1, 5, 8] [100] <|
 .r 4 2 101 [1, 5, 8, 30, 31] [100] <|
 .bind (F_r24_PutInt p0 r1.1) fun r3 hr3 =>
 .s (.call [(1, 100)] [(900, 101)] (c_r24_PutInt hr3)) <|
 .r 0 3 102 [1, 5, 8, 32, 35] [101] <|
 .gd ((r3.length + ([(IntKind.wrap .u8 (r2))] : List Int).length) * 1 ≤ 140737488355328) fun g4 =>
 .s (.appL (fInt .u8) (r3) (([(IntKind.wrap .u8 (r2))] : List Int)) (gT (fInt .u8) r3) (.inr rfl) 5 1 1 102 g4) <|
 .r 0 1 103 [0, 1, 5, 8] [102] <|
 .rp 4 6 103 [0, 1, 5, 8, 42] [102] (some (((8 : Int) ≠ 0))) (ob1 (by decide)) <|
 .gd ((0 : Int) ≤ (IntKind.wrap .i64 (Int.tdiv (IntKind.wrap .i64 ((IntKind.wrap .i64 ((p1.length : Int) * r2)) + 7)) 8))) fun g5 =>
 .gd ((IntKind.wrap .i64 (Int.tdiv (IntKind.wrap .i64 ((IntKind.wrap .i64 ((p1.length : Int) * r2)) + 7)) 8)) * 1 ≤ 140737488355328) fun g6 =>
 .s (.make (fInt .u8) (0 : Int) (IntKind.wrap .i64 (Int.tdiv (IntKind.wrap .i64 ((IntKind.wrap .i64 ((p1.length : Int) * r2)) + 7)) 8)) 5 1 1 103 g5 g6) <|
 .r 0 1 104 [0, 1, 5, 8, 9] [102, 103] <|
 .bh ((List.replicate (Int.toNat (IntKind.wrap .i64 (Int.tdiv (IntKind.wrap .i64 ((IntKind.wrap .i64 ((p1.length : Int) * r2)) + 7)) 8))) (0 : Int))) 103 (fun x7 => .rows 5 1 x7.length (gT (fInt .u8) x7)) fun x7 =>
 .r 4 1 104 [0, 1, 5, 8, 9, 10] [102, 103] <|
 .sq 2 (fun j1 : (List Int) => let u1 := (r3 ++ ([(IntKind.wrap .u8 (r2))] : List Int)); ⟨[(0, .c (.nm 102)), (9, .c (.nm 103))], [(102, .rows 5 1 u1.length (gT (fInt .u8) u1)), (103, .rows 5 1 j1.length (gT (fInt .u8) j1))]⟩) (
 .r 2 1 104 [0, 1, 5, 8, 9, 10, 11] [102, 103] <|
 .s (.cn [0, 1, 5, 8, 9, 10, 11] [102, 103]) <|
 .lp 3 (fun j2 : (Int × Int × List Int) => let u1 := (r3 ++ ([(IntKind.wrap .u8 (r2))] : List Int)); ⟨[(0, .c (.nm 102)), (1, .c (.d (.ro 1 p1.length (gT (fInt .i64) p1)))), (5, xi r1.1), (8, xi r2), (9, .c (.nm 103)), (10, xi j2.1), (11, xi j2.2.1)], [(102, .rows 5 1 u1.length (gT (fInt .u8) u1)), (103, .rows 5 1 j2.2.2.length (gT (fInt .u8) j2.2.2))]⟩) (0, 0, x7) fun j2 =>
 .r 3 4 104 [0, 1, 5, 8, 9, 10, 11, 47] [102, 103] <|
 .cond 2 (
 .sq 2 (fun j3 : (Int × List Int) => let u1 := (r3 ++ ([(IntKind.wrap .u8 (r2))] : List Int)); ⟨[(0, .c (.nm 102)), (1, .c (.d (.ro 1 p1.length (gT (fInt .i64) p1)))), (5, xi r1.1), (8, xi r2), (9, .c (.nm 103)), (10, xi j3.1), (11, xi j2.2.1)], [(102, .rows 5 1 u1.length (gT (fInt .u8) u1)), (103, .rows 5 1 j3.2.length (gT (fInt .u8) j3.2))]⟩) (
 .gd ((0 : Int) ≤ j2.2.1 ∧ j2.2.1 < (p1.length : Int)) fun g8 =>
 .rp 3 9 104 [0, 1, 5, 8, 9, 10, 11, 12] [102, 103] (some (((0 : Int) ≤ j2.2.1 ∧ j2.2.1 < (p1.length : Int)))) (ob1 g8) <|
 .bs ((IntKind.wrap .u64 ((IntKind.wrap .u64 ((p1.getD (Int.toNat j2.2.1) default))) - (IntKind.wrap .u64 (r1.1))))) [12] (fun x9 => .c (.d (.v (.int .u64 x9)))) fun x9 =>
 .r 4 1 104 [0, 1, 5, 8, 9, 10, 11, 12, 13] [102, 103] <|
 .s (.cn [0, 1, 5, 8, 9, 10, 11, 12, 13] [102, 103]) <|
 .lp 3 (fun j4 : (Int × Int × List Int) => let u1 := (r3 ++ ([(IntKind.wrap .u8 (r2))] : List Int)); ⟨[(0, .c (.nm 102)), (1, .c (.d (.ro 1 p1.length (gT (fInt .i64) p1)))), (5, xi r1.1), (8, xi r2), (9, .c (.nm 103)), (10, xi j4.1), (11, xi j2.2.1), (12, .c (.d (.v (.int .u64 x9)))), (13, xi j4.2.1)], [(102, .rows 5 1 u1.length (gT (fInt .u8) u1)), (103, .rows 5 1 j4.2.2.length (gT (fInt .u8) j4.2.2))]⟩) (j2.1, 0, j2.2.2) fun j4 =>
 .r 3 3 104 [0, 1, 5, 8, 9, 10, 11, 12, 13, 60] [102, 103] <|
 .cond 2 (
 .sq 4 (fun j5 : (List Int) => let u1 := (r3 ++ ([(IntKind.wrap .u8 (r2))] : List Int)); ⟨[(0, .c (.nm 102)), (1, .c (.d (.ro 1 p1.length (gT (fInt .i64) p1)))), (5, xi r1.1), (8, xi r2), (9, .c (.nm 103)), (10, xi j4.1), (11, xi j2.2.1), (12, .c (.d (.v (.int .u64 x9)))), (13, xi j4.2.1)], [(102, .rows 5 1 u1.length (gT (fInt .u8) u1)), (103, .rows 5 1 j5.length (gT (fInt .u8) j5))]⟩) (
 .gd ((0 : Int) ≤ j4.2.1) fun g10 =>
 .rp 2 5 104 [0, 1, 5, 8, 9, 10, 11, 12, 13, 67] [102, 103] (some (((0 : Int) ≤ j4.2.1))) (ob1 g10) <|
 .bs (((IntKind.wrap .u64 ((BitVec.ofInt 64 (Int.fdiv x9 (2 ^ (min (Int.toNat j4.2.1) 64))) &&& BitVec.ofInt 64 1).toNat : Int)) == 1)) [67] xb fun x11 =>
 .cond 2 (
 .s (.cn [0, 1, 5, 8, 9, 10, 11, 12, 13] [102, 103]) <|
 .gd ((0 : Int) ≤ (IntKind.wrap .i64 (Int.tdiv j4.1 8)) ∧ (IntKind.wrap .i64 (Int.tdiv j4.1 8)) < (j4.2.2.length : Int)) fun g12 =>
 .gd ((0 : Int) ≤ (Int.tmod j4.1 8)) fun g13 =>
 .s (.dr [.stR (fInt .u8) j4.2.2 10 103 5 1 (Int.toNat (IntKind.wrap .i64 (Int.tdiv j4.1 8))) 0 (IntKind.wrap .u8 ((BitVec.ofInt 8 (j4.2.2.getD (Int.toNat (IntKind.wrap .i64 (Int.tdiv j4.1 8))) default) ||| BitVec.ofInt 8 (IntKind.wrap .u8 (1 * 2 ^ (min (Int.toNat (Int.tmod j4.1 8)) 8)))).toNat : Int)) (tn g12)] (let u1 := (IntKind.wrap .i64 (Int.tdiv j4.1 8)); let u2 := (((0 : Int) ≤ u1 ∧ u1 < (j4.2.2.length : Int))); [(2, some (((8 : Int) ≠ 0))), (3, some u2), (4, some (((Int.toNat u1) < j4.2.2.length))), (6, some (((8 : Int) ≠ 0))), (7, some (((0 : Int) ≤ (Int.tmod j4.1 8)))), (9, some u2)]) (obsAll.cons (ob1 (by decide)) (obsAll.cons (ob1 g12) (obsAll.cons (ob1 (tn g12)) (obsAll.cons (ob1 (by decide)) (obsAll.cons (ob1 g13) (obsAll.cons (ob1 g12) obsAll.nil)))))) [0, 1, 5, 8, 9, 10, 11, 12, 13] [102, 103]) <|
 .bh ((j4.2.2.set (Int.toNat (IntKind.wrap .i64 (Int.tdiv j4.1 8))) (IntKind.wrap .u8 ((BitVec.ofInt 8 (j4.2.2.getD (Int.toNat (IntKind.wrap .i64 (Int.tdiv j4.1 8))) default) ||| BitVec.ofInt 8 (IntKind.wrap .u8 (1 * 2 ^ (min (Int.toNat (Int.tmod j4.1 8)) 8)))).toNat : Int)))) 103 (fun x14 => .rows 5 1 x14.length (gT (fInt .u8) x14)) fun x14 =>
 .lf 1 [0, 1, 5, 8, 9, 10, 11, 12, 13] [102, 103] (.inl x14)
 ) (
 .lf 1 [0, 1, 5, 8, 9, 10, 11, 12, 13] [102, 103] (.inl j4.2.2)
 )
 ) fun j5 =>
 .r 1 3 104 [0, 1, 5, 8, 9, 10, 11, 12, 13] [102, 103] <|
 .r 4 3 104 [0, 1, 5, 8, 9, 10, 11, 12, 13] [102, 103] <|
 .lf 1 [0, 1, 5, 8, 9, 10, 11, 12, 13] [102, 103] (.inl ((IntKind.wrap .i64 (j4.1 + 1)), (IntKind.wrap .i64 (j4.2.1 + 1)), j5))
 ) (
 .lf 1 [0, 1, 5, 8, 9, 10, 11] [102, 103] (.inr (.inl (j4.1, j4.2.2)))
 )
 ) fun j3 =>
 .r 1 3 104 [0, 1, 5, 8, 9, 10, 11] [102, 103] <|
 .lf 1 [0, 1, 5, 8, 9, 10, 11] [102, 103] (.inl (j3.1, (IntKind.wrap .i64 (j2.2.1 + 1)), j3.2))
 ) (
 .lf 1 [0, 9] [102, 103] (.inr (.inl j2.2.2))
 )
 ) fun j1 =>
 .r 2 2 104 [80, 81] [102, 103] <|
 .gd (((r3 ++ ([(IntKind.wrap .u8 (r2))] : List Int)).length + j1.length) * 1 ≤ 140737488355328) fun g15 =>
 .s (.appL (fInt .u8) ((r3 ++ ([(IntKind.wrap .u8 (r2))] : List Int))) (j1) (gT (fInt .u8) (r3 ++ ([(IntKind.wrap .u8 (r2))] : List Int))) (.inr rfl) 5 1 1 104 g15) <|
 .r 0 1 105 [4] [104] <|
 .s (.rn 104 900) <|
 .lf 3 [4] [900] ((r3 ++ ([(IntKind.wrap .u8 (r2))] : List Int)) ++ j1)
 )
/-- logtide/logtideref24.pack -/
theorem c_r24_pack {p0 : List Int} {p1 : List Int} {r : List Int} (h : F_r24_pack p0 p1 = some r) : Spec Tryz.prog 133 [.c (.nm 1), .c (.d (.ro 1 p1.length (gT (fInt .i64) p1)))] [(1, .rows 5 1 p0.length (gT (fInt .u8) p0))] (.c (.nm 900)) [(900, .rows 5 1 r.length (gT (fInt .u8) r))] :=
  Cert.spec [900] (fun r : List Int => .c (.nm 900)) (fun r => [(900, .rows 5 1 r.length (gT (fInt .u8) r))]) (z_r24_pack p0 p1) Tryz.func133 rfl (by kernel_rfl) h
end Go.Abs
