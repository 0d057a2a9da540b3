/- DERIVED. Printed by gen.py of this repo. -/
import Derived.Test.YtlhiaclmbegaiaaGreatF5
set_option linter.unusedVariables false
set_option linter.unusedSimpArgs false
set_option maxRecDepth 100000
namespace Go.Abs
open Go.Proofs
noncomputable def L_r26_Encode_4 (j2 : Int × List Int) (p0 : S_Filter) (j4 : Int × List Int) : Option ((Int × List Int) ⊕ ((List Int) ⊕ ((Int × List Int) ⊕ ((List Int) ⊕ (List Int × Int))))) :=
 cond (decide (j4.1 < 8)) (
 gd ((0 : Int) ≤ j2.1 ∧ j2.1 < (p0.Bits.length : Int)) (
 gd ((0 : Int) ≤ (IntKind.wrap .i64 (8 * j4.1))) (
 gd ((j4.2.length + ([(IntKind.wrap .u8 ((Int.fdiv (p0.Bits.getD (Int.toNat j2.1) default) (2 ^ (min (Int.toNat (IntKind.wrap .i64 (8 * j4.1))) 64)))))] : List Int).length) * 1 ≤ 140737488355328) (
 bd (j4.2 ++ ([(IntKind.wrap .u8 ((Int.fdiv (p0.Bits.getD (Int.toNat j2.1) default) (2 ^ (min (Int.toNat (IntKind.wrap .i64 (8 * j4.1))) 64)))))] : List Int)) fun x6 =>
 some (.inl ((IntKind.wrap .i64 (j4.1 + 1)), x6)))))) (
 some (.inr (.inl j4.2)))
noncomputable def L_r26_Encode_2 (p0 : S_Filter) (j2 : Int × List Int) : Option ((Int × List Int) ⊕ ((List Int) ⊕ (List Int × Int))) :=
 cond (decide (j2.1 < (p0.Bits.length : Int))) (
 bindE (σ := (List Int)) (
 loop (L_r26_Encode_4 j2 p0) (0, j2.2)) fun j3 =>
 some (.inl ((IntKind.wrap .i64 (j2.1 + 1)), j3))) (
 some (.inr (.inl j2.2)))
noncomputable def F_r26_Encode (p0 : S_Filter) : Option (List Int × Int) :=
 bnd (F_r26_Check p0) fun r1 =>
 cond (r1 != 0) (
 some (([] : List Int), r1)) (
 bd ([(IntKind.wrap .u8 (p0.Hashes)), (IntKind.wrap .u8 ((Int.fdiv (p0.Bits.length : Int) (2 ^ (min (Int.toNat 8) 64))))), (IntKind.wrap .u8 ((p0.Bits.length : Int)))] : List Int) fun x2 =>
 bindE (σ := (List Int)) (
 loop (L_r26_Encode_2 p0) (0, x2)) fun j1 =>
 some (j1, 0))
noncomputable def z_r26_Encode (p0 : S_Filter) : Cert Tryz.prog 50 (List Int × Int) :=
 .r 2 3 100 [1] [100] <|
 .r 5 1 101 [1, 8] [100] <|
 .bind (F_r26_Check p0) fun r1 hr1 =>
 .s (.call [] [] (c_r26_Check hr1)) <|
 .r 0 1 101 [1, 4] [100] <|
 .r 4 2 101 [1, 4, 11] [100] <|
 .cond 2 (
 .r 2 3 101 [2, 3] [] <|
 .s (.own 2 101 5 1 (gT (fInt .u8) [])) <|
 .s (.rn 101 900) <|
 .lf 3 [2, 3] [900] (([] : List Int), r1)
 ) (
 .rp 4 12 102 [1, 15, 20, 24] [100] (some (((0 : Int) ≤ (8 : Int)))) (ob1 (by decide)) <|
 .s (.buildO (fInt .u8) ([(IntKind.wrap .u8 (p0.Hashes)), (IntKind.wrap .u8 ((Int.fdiv (p0.Bits.length : Int) (2 ^ (min (Int.toNat 8) 64))))), (IntKind.wrap .u8 ((p0.Bits.length : Int)))] : List Int) 5 1 102) <|
 .r 0 1 103 [1, 5] [100, 102] <|
 .bh (([(IntKind.wrap .u8 (p0.Hashes)), (IntKind.wrap .u8 ((Int.fdiv (p0.Bits.length : Int) (2 ^ (min (Int.toNat 8) 64))))), (IntKind.wrap .u8 ((p0.Bits.length : Int)))] : List Int)) 102 (fun x2 => .rows 5 1 x2.length (gT (fInt .u8) x2)) fun x2 =>
 .sq 2 (fun j1 : (List Int) => ⟨[(5, .c (.nm 102))], [(102, .rows 5 1 j1.length (gT (fInt .u8) j1))]⟩) (
 .r 2 1 103 [1, 5, 6] [100, 102] <|
 .s (.cn [1, 5, 6] [100, 102]) <|
 .lp 3 (fun j2 : (Int × List Int) => ⟨[(1, .c (.np 100 2 0 0)), (5, .c (.nm 102)), (6, xi j2.1)], [(100, .box 166 (bS_Filter p0)), (102, .rows 5 1 j2.2.length (gT (fInt .u8) j2.2))]⟩) (0, x2) fun j2 =>
 .r 3 5 103 [1, 5, 6, 30] [100, 102] <|
 .cond 2 (
 .sq 2 (fun j3 : (List Int) => ⟨[(1, .c (.np 100 2 0 0)), (5, .c (.nm 102)), (6, xi j2.1)], [(100, .box 166 (bS_Filter p0)), (102, .rows 5 1 j3.length (gT (fInt .u8) j3))]⟩) (
 .r 3 1 103 [1, 5, 6, 7] [100, 102] <|
 .s (.cn [1, 5, 6, 7] [100, 102]) <|
 .lp 3 (fun j4 : (Int × List Int) => ⟨[(1, .c (.np 100 2 0 0)), (5, .c (.nm 102)), (6, xi j2.1), (7, xi j4.1)], [(100, .box 166 (bS_Filter p0)), (102, .rows 5 1 j4.2.length (gT (fInt .u8) j4.2))]⟩) (0, j2.2) fun j4 =>
 .r 3 2 103 [1, 5, 6, 7, 34] [100, 102] <|
 .cond 2 (
 .gd ((0 : Int) ≤ j2.1 ∧ j2.1 < (p0.Bits.length : Int)) fun g3 =>
 .gd ((0 : Int) ≤ (IntKind.wrap .i64 (8 * j4.1))) fun g4 =>
 .rp 5 11 103 [1, 6, 7, 37, 47] [100, 102] (some ((((0 : Int) ≤ j2.1 ∧ j2.1 < (p0.Bits.length : Int)) ∧ ((0 : Int) ≤ (IntKind.wrap .i64 (8 * j4.1)))))) (ob1 (⟨g3, g4⟩)) <|
 .gd ((j4.2.length + ([(IntKind.wrap .u8 ((Int.fdiv (p0.Bits.getD (Int.toNat j2.1) default) (2 ^ (min (Int.toNat (IntKind.wrap .i64 (8 * j4.1))) 64)))))] : List Int).length) * 1 ≤ 140737488355328) fun g5 =>
 .s (.appL (fInt .u8) (j4.2) (([(IntKind.wrap .u8 ((Int.fdiv (p0.Bits.getD (Int.toNat j2.1) default) (2 ^ (min (Int.toNat (IntKind.wrap .i64 (8 * j4.1))) 64)))))] : List Int)) (gT (fInt .u8) j4.2) (.inr rfl) 5 1 1 103 g5) <|
 .r 0 1 104 [1, 5, 6, 7] [100, 103] <|
 .bh ((j4.2 ++ ([(IntKind.wrap .u8 ((Int.fdiv (p0.Bits.getD (Int.toNat j2.1) default) (2 ^ (min (Int.toNat (IntKind.wrap .i64 (8 * j4.1))) 64)))))] : List Int))) 103 (fun x6 => .rows 5 1 x6.length (gT (fInt .u8) x6)) fun x6 =>
 .r 4 3 104 [1, 5, 6, 7] [100, 103] <|
 .s (.cn [1, 5, 6, 7] [100, 103]) <|
 .s (.rn 103 102) <|
 .lf 1 [1, 5, 6, 7] [100, 102] (.inl ((IntKind.wrap .i64 (j4.1 + 1)), x6))
 ) (
 .lf 1 [1, 5, 6] [100, 102] (.inr (.inl j4.2))
 )
 ) fun j3 =>
 .r 1 3 104 [1, 5, 6] [100, 102] <|
 .lf 1 [1, 5, 6] [100, 102] (.inl ((IntKind.wrap .i64 (j2.1 + 1)), j3))
 ) (
 .lf 1 [5] [102] (.inr (.inl j2.2))
 )
 ) fun j1 =>
 .r 2 3 104 [2, 3] [102] <|
 .s (.rn 102 900) <|
 .lf 3 [2, 3] [900] (j1, 0)
 )
/-- logtide/logtideref26.Encode -/
theorem c_r26_Encode {p0 : S_Filter} {r : List Int × Int} (h : F_r26_Encode p0 = some r) : Spec Tryz.prog 109 [.agg (bS_Filter p0)] [] (.tup [.c (.nm 900), xi r.2]) [(900, .rows 5 1 r.1.length (gT (fInt .u8) r.1))] :=
  Cert.spec [900] (fun r : List Int × Int => .tup [.c (.nm 900), xi r.2]) (fun r => [(900, .rows 5 1 r.1.length (gT (fInt .u8) r.1))]) (z_r26_Encode p0) Tryz.func109 rfl (by kernel_rfl) h
noncomputable def L_r27_filter_2 (p0 : List S_Event) (j2 : Int × List ByteArray) : Option ((Int × List ByteArray) ⊕ ((List ByteArray) ⊕ (List Int))) :=
 cond (decide (j2.1 < (p0.length : Int))) (
 gd ((0 : Int) ≤ j2.1 ∧ j2.1 < (p0.length : Int)) (
 bnd (F_r27_Terms (p0.getD (Int.toNat j2.1) default)) fun r2 =>
 gd ((j2.2.length + r2.length) * 16 ≤ 140737488355328) (
 some (.inl ((IntKind.wrap .i64 (j2.1 + 1)), (j2.2 ++ r2)))))) (
 some (.inr (.inl j2.2)))
noncomputable def F_r27_filter (p0 : List S_Event) : Option (List Int) :=
 bindE (σ := (List ByteArray)) (
 loop (L_r27_filter_2 p0) (0, ([] : List ByteArray))) fun j1 =>
 bnd (F_r23_Distinct j1) fun r4 =>
 bnd (F_r26_Build r4 10) fun r5 =>
 bnd (F_r26_Encode r5.1) fun r6 =>
 some r6.1
noncomputable def z_r27_filter (p0 : List S_Event) : Cert Tryz.prog 34 (List Int) :=
 .r 2 1 100 [0] [] <|
 .r 4 1 100 [0, 3] [] <|
 .sq 2 (fun j1 : (List ByteArray) => ⟨[(3, .c (.nm 100))], [(100, .rows 9 1 j1.length (gT fStr j1))]⟩) (
 .r 2 1 100 [0, 3, 4] [] <|
 .s (.own 3 100 9 1 (gT fStr [])) <|
 .s (.cn [0, 3, 4] [100]) <|
 .lp 3 (fun j2 : (Int × List ByteArray) => ⟨[(0, .c (.d (.ro 10 p0.length (gT fS_Event p0)))), (3, .c (.nm 100)), (4, xi j2.1)], [(100, .rows 9 1 j2.2.length (gT fStr j2.2))]⟩) (0, ([] : List ByteArray)) fun j2 =>
 .r 3 4 101 [0, 3, 4, 12] [100] <|
 .cond 2 (
 .gd ((0 : Int) ≤ j2.1 ∧ j2.1 < (p0.length : Int)) fun g1 =>
 .rp 5 5 101 [0, 4, 15, 19] [100] (some (((0 : Int) ≤ j2.1 ∧ j2.1 < (p0.length : Int)))) (ob1 g1) <|
 .bind (F_r27_Terms (p0.getD (Int.toNat j2.1) default)) fun r2 hr2 =>
 .s (.call [] [(900, 101)] (c_r27_Terms hr2)) <|
 .r 0 0 102 [0, 4, 15, 20] [100, 101] <|
 .gd ((j2.2.length + r2.length) * 16 ≤ 140737488355328) fun g3 =>
 .s (.appL fStr (j2.2) (r2) (gT fStr j2.2) (.inr rfl) 9 1 16 102 g3) <|
 .r 0 1 103 [0, 3, 4] [102] <|
 .r 4 3 103 [0, 3, 4] [102] <|
 .s (.cn [0, 3, 4] [102]) <|
 .s (.rn 102 100) <|
 .lf 1 [0, 3, 4] [100] (.inl ((IntKind.wrap .i64 (j2.1 + 1)), (j2.2 ++ r2)))
 ) (
 .lf 1 [3] [100] (.inr (.inl j2.2))
 )
 ) fun j1 =>
 .r 2 1 103 [23] [100] <|
 .bind (F_r23_Distinct j1) fun r4 hr4 =>
 .s (.call [(60, 100)] [(900, 103)] (Spec.lend 60 9 1 j1.length (gT fStr j1) _ (c_r23_Distinct hr4) (args := [.c (.nm 60)]) rfl rfl rfl (by repeat (first | trivial | refine ⟨fun _ _ => ⟨_, rfl⟩, ?_⟩)))) <|
 .r 0 0 104 [24] [103] <|
 .s (.fz 103) <|
 .bind (F_r26_Build r4 10) fun r5 hr5 =>
 .s (.call [] [] (c_r26_Build hr5)) <|
 .r 0 6 104 [5] [104] <|
 .r 4 1 105 [29] [] <|
 .bind (F_r26_Encode r5.1) fun r6 hr6 =>
 .s (.call [] [(900, 105)] (c_r26_Encode hr6)) <|
 .r 0 5 106 [7] [105] <|
 .r 4 2 106 [2] [105] <|
 .s (.rn 105 900) <|
 .lf 3 [2] [900] r6.1
/-- logtide/logtideref27.filter -/
theorem c_r27_filter {p0 : List S_Event} {r : List Int} (h : F_r27_filter p0 = some r) : Spec Tryz.prog 76 [.c (.d (.ro 10 p0.length (gT fS_Event p0)))] [] (.c (.nm 900)) [(900, .rows 5 1 r.length (gT (fInt .u8) r))] :=
  Cert.spec [900] (fun r : List Int => .c (.nm 900)) (fun r => [(900, .rows 5 1 r.length (gT (fInt .u8) r))]) (z_r27_filter p0) Tryz.func76 rfl (by kernel_rfl) h
noncomputable def F_r27_number (p0 : S_Event) (p1 : Int) : Option (Int) :=
 cond (p1 == 1) (
 some p0.Host) (
 cond (p1 == 2) (
 some p0.File) (
 cond (p1 == 3) (
 some p0.From) (
 cond (p1 == 4) (
 some p0.To) (
 cond (p1 == 5) (
 some p0.Time) (
 some p0.Weight)))))
noncomputable def z_r27_number (p0 : S_Event) (p1 : Int) : Cert Tryz.prog 28 (Int) :=
 .r 2 2 100 [1, 2] [100] <|
 .r 5 1 101 [2, 5] [100] <|
 .r 5 2 101 [2, 5, 6] [100] <|
 .cond 2 (
 .r 2 3 101 [4] [] <|
 .lf 3 [4] [] p0.Host
 ) (
 .r 2 2 101 [2, 5, 10] [100] <|
 .cond 2 (
 .r 2 3 101 [4] [] <|
 .lf 3 [4] [] p0.File
 ) (
 .r 2 2 101 [2, 5, 14] [100] <|
 .cond 2 (
 .r 2 3 101 [4] [] <|
 .lf 3 [4] [] p0.From
 ) (
 .r 2 2 101 [2, 5, 18] [100] <|
 .cond 2 (
 .r 2 3 101 [4] [] <|
 .lf 3 [4] [] p0.To
 ) (
 .r 2 2 101 [2, 22] [100] <|
 .cond 2 (
 .r 2 3 101 [4] [] <|
 .lf 3 [4] [] p0.Time
 ) (
 .r 5 3 101 [4] [] <|
 .lf 3 [4] [] p0.Weight
 )
 )
 )
 )
 )
/-- logtide/logtideref27.number -/
theorem c_r27_number {p0 : S_Event} {p1 : Int} {r : Int} (h : F_r27_number p0 p1 = some r) : Spec Tryz.prog 77 [.agg (bS_Event p0), xi p1] [] (xi r) [] :=
  Cert.spec [] (fun r : Int => xi r) (fun r => []) (z_r27_number p0 p1) Tryz.func77 rfl (by kernel_rfl) h
noncomputable def L_r27_section_3 (p0 : List S_Event) (p1 : Int) (j3 : Int × List ByteArray) : Option ((Int × List ByteArray) ⊕ ((List ByteArray) ⊕ (List Int))) :=
 cond (decide (j3.1 < (p0.length : Int))) (
 bindE (σ := (List ByteArray)) (
 cond (p1 == 7) (
 gd ((0 : Int) ≤ j3.1 ∧ j3.1 < (p0.length : Int)) (
 gd ((j3.2.length + ([(p0.getD (Int.toNat j3.1) default).Trace] : List ByteArray).length) * 16 ≤ 140737488355328) (
 some (.inl (j3.2 ++ ([(p0.getD (Int.toNat j3.1) default).Trace] : List ByteArray)))))) (
 gd ((0 : Int) ≤ j3.1 ∧ j3.1 < (p0.length : Int)) (
 gd ((j3.2.length + ([(p0.getD (Int.toNat j3.1) default).Stream] : List ByteArray).length) * 16 ≤ 140737488355328) (
 some (.inl (j3.2 ++ ([(p0.getD (Int.toNat j3.1) default).Stream] : List ByteArray))))))) fun j4 =>
 some (.inl ((IntKind.wrap .i64 (j3.1 + 1)), j4))) (
 some (.inr (.inl j3.2)))
noncomputable def L_r27_section_6 (p0 : List S_Event) (p1 : Int) (j6 : Int × List Int) : Option ((Int × List Int) ⊕ ((List Int) ⊕ (List Int))) :=
 cond (decide (j6.1 < (p0.length : Int))) (
 gd ((0 : Int) ≤ j6.1 ∧ j6.1 < (p0.length : Int)) (
 bnd (F_r27_number (p0.getD (Int.toNat j6.1) default) p1) fun r11 =>
 gd ((j6.2.length + ([r11] : List Int).length) * 8 ≤ 140737488355328) (
 some (.inl ((IntKind.wrap .i64 (j6.1 + 1)), (j6.2 ++ ([r11] : List Int))))))) (
 some (.inr (.inl j6.2)))
noncomputable def F_r27_section (p0 : List S_Event) (p1 : Int) : Option (List Int) :=
 bindE (σ := (Bool)) (
 cond (p1 == 7) (
 some (.inl (p1 == 7))) (
 some (.inl (p1 == 8)))) fun j1 =>
 cond j1 (
 bindE (σ := (List ByteArray)) (
 loop (L_r27_section_3 p0 p1) (0, ([] : List ByteArray))) fun j2 =>
 bnd (F_r27_indexed j2) fun r5 =>
 some r5) (
 cond (p1 == 9) (
 bnd (F_r27_lines p0) fun r6 =>
 some r6) (
 cond (p1 == 10) (
 bnd (F_r27_fields p0) fun r7 =>
 some r7) (
 cond (p1 == 11) (
 bnd (F_r27_index p0) fun r8 =>
 some r8) (
 cond (p1 == 12) (
 bnd (F_r27_filter p0) fun r9 =>
 some r9) (
 bindE (σ := (List Int)) (
 loop (L_r27_section_6 p0 p1) (0, ([] : List Int))) fun j5 =>
 bnd (F_r27_column j5) fun r13 =>
 some r13)))))
noncomputable def z_r27_section (p0 : List S_Event) (p1 : Int) : Cert Tryz.prog 72 (List Int) :=
 .r 2 1 100 [0, 1] [] <|
 .r 4 1 100 [0, 1, 5] [] <|
 .r 5 1 100 [0, 1, 5, 9] [] <|
 .sq 3 (fun j1 : (Bool) => ⟨[(0, .c (.d (.ro 10 p0.length (gT fS_Event p0)))), (1, xi p1), (5, xv (.slice none 0 0)), (9, xi p1), (10, xb j1)], []⟩) (
 .r 2 2 100 [0, 1, 5, 9, 10] [] <|
 .cond 2 (
 .lf 1 [0, 1, 5, 9, 10] [] (.inl (p1 == 7))
 ) (
 .r 1 2 100 [0, 1, 5, 9, 10] [] <|
 .lf 1 [0, 1, 5, 9, 10] [] (.inl (p1 == 8))
 )
 ) fun j1 =>
 .cond 0 (
 .sq 0 (fun j2 : (List ByteArray) => ⟨[(5, .c (.nm 100))], [(100, .rows 9 1 j2.length (gT fStr j2))]⟩) (
 .r 2 1 100 [0, 1, 5, 6] [] <|
 .s (.own 5 100 9 1 (gT fStr [])) <|
 .s (.cn [0, 1, 5, 6] [100]) <|
 .lp 3 (fun j3 : (Int × List ByteArray) => ⟨[(0, .c (.d (.ro 10 p0.length (gT fS_Event p0)))), (1, xi p1), (5, .c (.nm 100)), (6, xi j3.1)], [(100, .rows 9 1 j3.2.length (gT fStr j3.2))]⟩) (0, ([] : List ByteArray)) fun j3 =>
 .r 3 4 101 [0, 1, 5, 6, 16] [100] <|
 .cond 2 (
 .sq 2 (fun j4 : (List ByteArray) => ⟨[(0, .c (.d (.ro 10 p0.length (gT fS_Event p0)))), (1, xi p1), (5, .c (.nm 101)), (6, xi j3.1)], [(101, .rows 9 1 j4.length (gT fStr j4))]⟩) (
 .r 3 2 101 [0, 1, 5, 6, 20] [100] <|
 .cond 2 (
 .gd ((0 : Int) ≤ j3.1 ∧ j3.1 < (p0.length : Int)) fun g1 =>
 .rp 1 7 101 [0, 1, 6, 21, 27] [100] (some (((0 : Int) ≤ j3.1 ∧ j3.1 < (p0.length : Int)))) (ob1 g1) <|
 .gd ((j3.2.length + ([(p0.getD (Int.toNat j3.1) default).Trace] : List ByteArray).length) * 16 ≤ 140737488355328) fun g2 =>
 .s (.appL fStr (j3.2) (([(p0.getD (Int.toNat j3.1) default).Trace] : List ByteArray)) (gT fStr j3.2) (.inr rfl) 9 1 16 101 g2) <|
 .r 0 1 102 [0, 1, 5, 6] [101] <|
 .lf 1 [0, 1, 5, 6] [101] (.inl (j3.2 ++ ([(p0.getD (Int.toNat j3.1) default).Trace] : List ByteArray)))
 ) (
 .gd ((0 : Int) ≤ j3.1 ∧ j3.1 < (p0.length : Int)) fun g3 =>
 .rp 1 7 102 [0, 1, 6, 29, 35] [100] (some (((0 : Int) ≤ j3.1 ∧ j3.1 < (p0.length : Int)))) (ob1 g3) <|
 .gd ((j3.2.length + ([(p0.getD (Int.toNat j3.1) default).Stream] : List ByteArray).length) * 16 ≤ 140737488355328) fun g4 =>
 .s (.appL fStr (j3.2) (([(p0.getD (Int.toNat j3.1) default).Stream] : List ByteArray)) (gT fStr j3.2) (.inr rfl) 9 1 16 102 g4) <|
 .r 0 1 103 [0, 1, 5, 6] [102] <|
 .s (.cn [0, 1, 5, 6] [102]) <|
 .s (.rn 102 101) <|
 .lf 1 [0, 1, 5, 6] [101] (.inl (j3.2 ++ ([(p0.getD (Int.toNat j3.1) default).Stream] : List ByteArray)))
 )
 ) fun j4 =>
 .r 1 3 103 [0, 1, 5, 6] [101] <|
 .s (.cn [0, 1, 5, 6] [101]) <|
 .s (.rn 101 100) <|
 .lf 1 [0, 1, 5, 6] [100] (.inl ((IntKind.wrap .i64 (j3.1 + 1)), j4))
 ) (
 .lf 1 [5] [100] (.inr (.inl j3.2))
 )
 ) fun j2 =>
 .r 2 1 103 [37] [100] <|
 .bind (F_r27_indexed j2) fun r5 hr5 =>
 .s (.call [(60, 100)] [(900, 103)] (Spec.lend 60 9 1 j2.length (gT fStr j2) _ (c_r27_indexed hr5) (args := [.c (.nm 60)]) rfl rfl rfl (by repeat (first | trivial | refine ⟨fun _ _ => ⟨_, rfl⟩, ?_⟩)))) <|
 .r 0 1 104 [4] [103] <|
 .s (.rn 103 900) <|
 .lf 3 [4] [900] r5
 ) (
 .r 2 2 104 [0, 1, 9, 39] [] <|
 .cond 2 (
 .r 2 1 104 [41] [] <|
 .bind (F_r27_lines p0) fun r6 hr6 =>
 .s (.call [] [(900, 104)] (c_r27_lines hr6)) <|
 .r 0 1 105 [4] [104] <|
 .s (.rn 104 900) <|
 .lf 3 [4] [900] r6
 ) (
 .r 2 2 105 [0, 1, 9, 43] [] <|
 .cond 2 (
 .r 2 1 105 [45] [] <|
 .bind (F_r27_fields p0) fun r7 hr7 =>
 .s (.call [] [(900, 105)] (c_r27_fields hr7)) <|
 .r 0 1 106 [4] [105] <|
 .s (.rn 105 900) <|
 .lf 3 [4] [900] r7
 ) (
 .r 2 2 106 [0, 1, 9, 47] [] <|
 .cond 2 (
 .r 2 1 106 [49] [] <|
 .bind (F_r27_index p0) fun r8 hr8 =>
 .s (.call [] [(900, 106)] (c_r27_index hr8)) <|
 .r 0 1 107 [4] [106] <|
 .s (.rn 106 900) <|
 .lf 3 [4] [900] r8
 ) (
 .r 2 2 107 [0, 1, 51] [] <|
 .cond 2 (
 .r 2 1 107 [53] [] <|
 .bind (F_r27_filter p0) fun r9 hr9 =>
 .s (.call [] [(900, 107)] (c_r27_filter hr9)) <|
 .r 0 1 108 [4] [107] <|
 .s (.rn 107 900) <|
 .lf 3 [4] [900] r9
 ) (
 .r 5 1 108 [0, 1, 7] [] <|
 .sq 2 (fun j5 : (List Int) => ⟨[(7, .c (.nm 108))], [(108, .rows 3 1 j5.length (gT (fInt .i64) j5))]⟩) (
 .r 2 1 108 [0, 1, 7, 8] [] <|
 .s (.own 7 108 3 1 (gT (fInt .i64) [])) <|
 .s (.cn [0, 1, 7, 8] [108]) <|
 .lp 3 (fun j6 : (Int × List Int) => ⟨[(0, .c (.d (.ro 10 p0.length (gT fS_Event p0)))), (1, xi p1), (7, .c (.nm 108)), (8, xi j6.1)], [(108, .rows 3 1 j6.2.length (gT (fInt .i64) j6.2))]⟩) (0, ([] : List Int)) fun j6 =>
 .r 3 4 109 [0, 1, 7, 8, 58] [108] <|
 .cond 2 (
 .gd ((0 : Int) ≤ j6.1 ∧ j6.1 < (p0.length : Int)) fun g10 =>
 .rp 5 6 109 [0, 1, 8, 61, 65, 66] [108] (some (((0 : Int) ≤ j6.1 ∧ j6.1 < (p0.length : Int)))) (ob1 g10) <|
 .bind (F_r27_number (p0.getD (Int.toNat j6.1) default) p1) fun r11 hr11 =>
 .s (.call [] [] (c_r27_number hr11)) <|
 .r 0 1 109 [0, 1, 8, 61, 68] [108] <|
 .gd ((j6.2.length + ([r11] : List Int).length) * 8 ≤ 140737488355328) fun g12 =>
 .s (.appL (fInt .i64) (j6.2) (([r11] : List Int)) (gT (fInt .i64) j6.2) (.inr rfl) 3 1 8 109 g12) <|
 .r 0 1 110 [0, 1, 7, 8] [109] <|
 .r 4 3 110 [0, 1, 7, 8] [109] <|
 .s (.cn [0, 1, 7, 8] [109]) <|
 .s (.rn 109 108) <|
 .lf 1 [0, 1, 7, 8] [108] (.inl ((IntKind.wrap .i64 (j6.1 + 1)), (j6.2 ++ ([r11] : List Int))))
 ) (
 .lf 1 [7] [108] (.inr (.inl j6.2))
 )
 ) fun j5 =>
 .r 2 1 110 [70] [108] <|
 .bind (F_r27_column j5) fun r13 hr13 =>
 .s (.call [(60, 108)] [(900, 110)] (Spec.lend 60 3 1 j5.length (gT (fInt .i64) j5) _ (c_r27_column hr13) (args := [.c (.nm 60)]) rfl rfl rfl (by repeat (first | trivial | refine ⟨fun _ _ => ⟨_, rfl⟩, ?_⟩)))) <|
 .r 0 1 111 [4] [110] <|
 .s (.rn 110 900) <|
 .lf 3 [4] [900] r13
 )
 )
 )
 )
 )
/-- logtide/logtideref27.section -/
theorem c_r27_section {p0 : List S_Event} {p1 : Int} {r : List Int} (h : F_r27_section p0 p1 = some r) : Spec Tryz.prog 49 [.c (.d (.ro 10 p0.length (gT fS_Event p0))), xi p1] [] (.c (.nm 900)) [(900, .rows 5 1 r.length (gT (fInt .u8) r))] :=
  Cert.spec [900] (fun r : List Int => .c (.nm 900)) (fun r => [(900, .rows 5 1 r.length (gT (fInt .u8) r))]) (z_r27_section p0 p1) Tryz.func49 rfl (by kernel_rfl) h
noncomputable def L_r27_Crc_4 (j4 : Int × Int) : Option ((Int × Int) ⊕ ((Int) ⊕ ((Int × Int) ⊕ ((Int) ⊕ (Int))))) :=
 cond (decide (j4.2 < 8)) (
 bindE (σ := (Int)) (
 cond ((IntKind.wrap .u32 ((BitVec.ofInt 32 j4.1 &&& BitVec.ofInt 32 1).toNat : Int)) == 1) (
 bd (IntKind.wrap .u32 ((BitVec.ofInt 32 (Int.fdiv j4.1 (2 ^ (min (Int.toNat 1) 32))) ^^^ BitVec.ofInt 32 3988292384).toNat : Int)) fun x3 =>
 some (.inl x3)) (
 some (.inl (Int.fdiv j4.1 (2 ^ (min (Int.toNat 1) 32)))))) fun j5 =>
 some (.inl (j5, (IntKind.wrap .i64 (j4.2 + 1))))) (
 some (.inr (.inl j4.1)))
noncomputable def L_r27_Crc_2 (p0 : List Int) (j2 : Int × Int) : Option ((Int × Int) ⊕ ((Int) ⊕ (Int))) :=
 cond (decide (j2.2 < (p0.length : Int))) (
 bindE (σ := (Int)) (
 gd ((0 : Int) ≤ j2.2 ∧ j2.2 < (p0.length : Int)) (
 bd (IntKind.wrap .u32 ((BitVec.ofInt 32 j2.1 ^^^ BitVec.ofInt 32 (IntKind.wrap .u32 ((p0.getD (Int.toNat j2.2) default)))).toNat : Int)) fun x2 =>
 loop L_r27_Crc_4 (x2, 0))) fun j3 =>
 some (.inl (j3, (IntKind.wrap .i64 (j2.2 + 1))))) (
 some (.inr (.inl j2.1)))
noncomputable def F_r27_Crc (p0 : List Int) : Option (Int) :=
 bindE (σ := (Int)) (
 loop (L_r27_Crc_2 p0) (4294967295, 0)) fun j1 =>
 some (IntKind.wrap .u32 ((BitVec.ofInt 32 4294967295 ^^^ BitVec.ofInt 32 j1).toNat : Int))
noncomputable def z_r27_Crc (p0 : List Int) : Cert Tryz.prog 33 (Int) :=
 .r 2 1 100 [0] [] <|
 .r 4 1 100 [0, 3] [] <|
 .sq 2 (fun j1 : (Int) => ⟨[(3, .c (.d (.v (.int .u32 j1))))], []⟩) (
 .r 2 1 100 [0, 3, 4] [] <|
 .s (.cn [0, 3, 4] []) <|
 .lp 3 (fun j2 : (Int × Int) => ⟨[(0, .c (.d (.ro 1 p0.length (gT (fInt .u8) p0)))), (3, .c (.d (.v (.int .u32 j2.1)))), (4, xi j2.2)], []⟩) (4294967295, 0) fun j2 =>
 .r 3 4 100 [0, 3, 4, 9] [] <|
 .cond 2 (
 .sq 2 (fun j3 : (Int) => ⟨[(0, .c (.d (.ro 1 p0.length (gT (fInt .u8) p0)))), (3, .c (.d (.v (.int .u32 j3)))), (4, xi j2.2)], []⟩) (
 .gd ((0 : Int) ≤ j2.2 ∧ j2.2 < (p0.length : Int)) fun g1 =>
 .rp 3 8 100 [0, 3, 4] [] (some (((0 : Int) ≤ j2.2 ∧ j2.2 < (p0.length : Int)))) (ob1 g1) <|
 .bs ((IntKind.wrap .u32 ((BitVec.ofInt 32 j2.1 ^^^ BitVec.ofInt 32 (IntKind.wrap .u32 ((p0.getD (Int.toNat j2.2) default)))).toNat : Int))) [3] (fun x2 => .c (.d (.v (.int .u32 x2)))) fun x2 =>
 .r 4 1 100 [0, 3, 4, 5] [] <|
 .s (.cn [0, 3, 4, 5] []) <|
 .lp 3 (fun j4 : (Int × Int) => ⟨[(0, .c (.d (.ro 1 p0.length (gT (fInt .u8) p0)))), (3, .c (.d (.v (.int .u32 j4.1)))), (4, xi j2.2), (5, xi j4.2)], []⟩) (x2, 0) fun j4 =>
 .r 3 2 100 [0, 3, 4, 5, 20] [] <|
 .cond 2 (
 .sq 2 (fun j5 : (Int) => ⟨[(0, .c (.d (.ro 1 p0.length (gT (fInt .u8) p0)))), (3, .c (.d (.v (.int .u32 j5)))), (4, xi j2.2), (5, xi j4.2)], []⟩) (
 .r 3 3 100 [0, 3, 4, 5, 25] [] <|
 .cond 2 (
 .rp 1 4 100 [0, 3, 4, 5] [] (some (((0 : Int) ≤ (1 : Int)))) (ob1 (by decide)) <|
 .bs ((IntKind.wrap .u32 ((BitVec.ofInt 32 (Int.fdiv j4.1 (2 ^ (min (Int.toNat 1) 32))) ^^^ BitVec.ofInt 32 3988292384).toNat : Int))) [3] (fun x3 => .c (.d (.v (.int .u32 x3)))) fun x3 =>
 .lf 1 [0, 3, 4, 5] [] (.inl x3)
 ) (
 .rp 1 3 100 [0, 3, 4, 5] [] (some (((0 : Int) ≤ (1 : Int)))) (ob1 (by decide)) <|
 .lf 1 [0, 3, 4, 5] [] (.inl (Int.fdiv j4.1 (2 ^ (min (Int.toNat 1) 32))))
 )
 ) fun j5 =>
 .r 1 3 100 [0, 3, 4, 5] [] <|
 .lf 1 [0, 3, 4, 5] [] (.inl (j5, (IntKind.wrap .i64 (j4.2 + 1))))
 ) (
 .lf 1 [0, 3, 4] [] (.inr (.inl j4.1))
 )
 ) fun j3 =>
 .r 1 3 100 [0, 3, 4] [] <|
 .lf 1 [0, 3, 4] [] (.inl (j3, (IntKind.wrap .i64 (j2.2 + 1))))
 ) (
 .lf 1 [3] [] (.inr (.inl j2.1))
 )
 ) fun j1 =>
 .r 2 3 100 [2] [] <|
 .lf 3 [2] [] (IntKind.wrap .u32 ((BitVec.ofInt 32 4294967295 ^^^ BitVec.ofInt 32 j1).toNat : Int))
/-- logtide/logtideref27.Crc -/
theorem c_r27_Crc {p0 : List Int} {r : Int} (h : F_r27_Crc p0 = some r) : Spec Tryz.prog 50 [.c (.d (.ro 1 p0.length (gT (fInt .u8) p0)))] [] (.c (.d (.v (.int .u32 r)))) [] :=
  Cert.spec [] (fun r : Int => .c (.d (.v (.int .u32 r)))) (fun r => []) (z_r27_Crc p0) Tryz.func50 rfl (by kernel_rfl) h
noncomputable def L_r27_Encode_3 (p0 : List S_Event) (j3 : Int × List Int × List Int) : Option ((Int × List Int × List Int) ⊕ ((List Int × List Int) ⊕ (List Int × Int))) :=
 cond (decide (j3.1 ≤ 12)) (
 bnd (F_r27_section p0 j3.1) fun r7 =>
 bnd (F_r27_Put j3.2.1 (IntKind.wrap .u64 ((r7.length : Int))) 4) fun r8 =>
 bnd (F_r27_Crc r7) fun r9 =>
 bnd (F_r27_Put r8 (IntKind.wrap .u64 (r9)) 4) fun r10 =>
 gd ((j3.2.2.length + r7.length) * 1 ≤ 140737488355328) (
 some (.inl ((IntKind.wrap .i64 (j3.1 + 1)), r10, (j3.2.2 ++ r7))))) (
 some (.inr (.inl (j3.2.1, j3.2.2))))
noncomputable def F_r27_Encode (p0 : List S_Event) : Option (List Int × Int) :=
 bnd (F_r27_Check p0) fun r1 =>
 cond (r1 != 0) (
 some (([] : List Int), r1)) (
 bindE (σ := (Int × Int)) (
 cond (decide ((p0.length : Int) > 0)) (
 gd ((0 : Int) ≤ 0 ∧ 0 < (p0.length : Int)) (
 gd ((0 : Int) ≤ (IntKind.wrap .i64 ((p0.length : Int) - 1)) ∧ (IntKind.wrap .i64 ((p0.length : Int) - 1)) < (p0.length : Int)) (
 some (.inl ((p0.getD 0 default).Time, (p0.getD (Int.toNat (IntKind.wrap .i64 ((p0.length : Int) - 1))) default).Time))))) (
 some (.inl (0, 0)))) fun j1 =>
 bnd (F_r27_Put ([76, 84, 83, 49] : List Int) (IntKind.wrap .u64 ((p0.length : Int))) 4) fun r4 =>
 bnd (F_r27_Put r4 (IntKind.wrap .u64 (j1.1)) 8) fun r5 =>
 bnd (F_r27_Put r5 (IntKind.wrap .u64 (j1.2)) 8) fun r6 =>
 bindE (σ := (List Int × List Int)) (
 loop (L_r27_Encode_3 p0) (1, r6, ([] : List Int))) fun j2 =>
 bnd (F_r27_Crc j2.1) fun r12 =>
 bnd (F_r27_Put j2.1 (IntKind.wrap .u64 (r12)) 4) fun r13 =>
 gd ((r13.length + j2.2.length) * 1 ≤ 140737488355328) (
 some ((r13 ++ j2.2), 0)))
noncomputable def z_r27_Encode (p0 : List S_Event) : Cert Tryz.prog 68 (List Int × Int) :=
 .r 2 2 100 [0] [] <|
 .r 5 1 100 [0, 11] [] <|
 .bind (F_r27_Check p0) fun r1 hr1 =>
 .s (.call [] [] (c_r27_Check hr1)) <|
 .r 0 1 100 [0, 4] [] <|
 .r 4 2 100 [0, 4, 14] [] <|
 .cond 2 (
 .r 2 3 100 [2, 3] [] <|
 .s (.own 2 100 5 1 (gT (fInt .u8) [])) <|
 .s (.rn 100 900) <|
 .lf 3 [2, 3] [900] (([] : List Int), r1)
 ) (
 .r 4 2 101 [0, 5, 6] [] <|
 .sq 2 (fun j1 : (Int × Int) => ⟨[(0, .c (.d (.ro 10 p0.length (gT fS_Event p0)))), (5, xi j1.1), (6, xi j1.2)], []⟩) (
 .r 2 3 101 [0, 5, 6, 18] [] <|
 .cond 2 (
 .s (.cn [0] []) <|
 .gd ((0 : Int) ≤ 0 ∧ 0 < (p0.length : Int)) fun g2 =>
 .gd ((0 : Int) ≤ (IntKind.wrap .i64 ((p0.length : Int) - 1)) ∧ (IntKind.wrap .i64 ((p0.length : Int) - 1)) < (p0.length : Int)) fun g3 =>
 .s (.dr [] (let u1 := (IntKind.wrap .i64 ((p0.length : Int) - 1)); [(1, some (((0 : Int) ≤ 0 ∧ 0 < (p0.length : Int)))), (8, some (((0 : Int) ≤ u1 ∧ u1 < (p0.length : Int))))]) (obsAll.cons (ob1 g2) (obsAll.cons (ob1 g3) obsAll.nil)) [0, 5, 6] []) <|
 .lf 1 [0, 5, 6] [] (.inl ((p0.getD 0 default).Time, (p0.getD (Int.toNat (IntKind.wrap .i64 ((p0.length : Int) - 1))) default).Time))
 ) (
 .lf 1 [0, 5, 6] [] (.inl (0, 0))
 )
 ) fun j1 =>
 .r 2 0 101 [0, 5, 6] [] <|
 .s (.buildO (fInt .u8) ([76, 84, 83, 49] : List Int) 5 1 101) <|
 .r 0 0 102 [0, 5, 6, 30] [101] <|
 .s (.mark 101 5 (([76, 84, 83, 49] : List Int).length) (gT (fInt .u8) ([76, 84, 83, 49] : List Int))) <|
 .r 0 3 102 [0, 5, 6, 31, 34] [101] <|
 .bind (F_r27_Put ([76, 84, 83, 49] : List Int) (IntKind.wrap .u64 ((p0.length : Int))) 4) fun r4 hr4 =>
 .s (.call [(1, 101)] [(900, 102)] (c_r27_Put hr4)) <|
 .r 0 2 103 [0, 6, 35, 37] [102] <|
 .bind (F_r27_Put r4 (IntKind.wrap .u64 (j1.1)) 8) fun r5 hr5 =>
 .s (.call [(1, 102)] [(900, 103)] (c_r27_Put hr5)) <|
 .r 0 2 104 [0, 38, 40] [103] <|
 .bind (F_r27_Put r5 (IntKind.wrap .u64 (j1.2)) 8) fun r6 hr6 =>
 .s (.call [(1, 103)] [(900, 104)] (c_r27_Put hr6)) <|
 .r 0 1 105 [0, 7] [104] <|
 .r 4 1 105 [0, 7, 8] [104] <|
 .sq 2 (fun j2 : (List Int × List Int) => ⟨[(7, .c (.nm 104)), (8, .c (.nm 105))], [(104, .rows 5 1 j2.1.length (gT (fInt .u8) j2.1)), (105, .rows 5 1 j2.2.length (gT (fInt .u8) j2.2))]⟩) (
 .r 2 1 105 [0, 7, 8, 9] [104] <|
 .s (.own 8 105 5 1 (gT (fInt .u8) [])) <|
 .s (.cn [0, 7, 8, 9] [104, 105]) <|
 .lp 3 (fun j3 : (Int × List Int × List Int) => ⟨[(0, .c (.d (.ro 10 p0.length (gT fS_Event p0)))), (7, .c (.nm 104)), (8, .c (.nm 105)), (9, xi j3.1)], [(104, .rows 5 1 j3.2.1.length (gT (fInt .u8) j3.2.1)), (105, .rows 5 1 j3.2.2.length (gT (fInt .u8) j3.2.2))]⟩) (1, r6, ([] : List Int)) fun j3 =>
 .r 3 2 106 [0, 7, 8, 9, 43] [104, 105] <|
 .cond 2 (
 .r 6 2 106 [0, 7, 8, 9, 46, 47] [104, 105] <|
 .bind (F_r27_section p0 j3.1) fun r7 hr7 =>
 .s (.call [] [(900, 106)] (c_r27_section hr7)) <|
 .r 0 1 107 [0, 7, 8, 9, 10] [104, 105, 106] <|
 .r 4 4 107 [0, 8, 9, 10, 49, 52] [104, 105, 106] <|
 .bind (F_r27_Put j3.2.1 (IntKind.wrap .u64 ((r7.length : Int))) 4) fun r8 hr8 =>
 .s (.call [(1, 104)] [(900, 107)] (c_r27_Put hr8)) <|
 .r 0 1 108 [0, 8, 9, 10, 53, 54] [105, 106, 107] <|
 .bind (F_r27_Crc r7) fun r9 hr9 =>
 .s (.call [(60, 106)] [] (Spec.lend 60 5 1 r7.length (gT (fInt .u8) r7) _ (c_r27_Crc hr9) (args := [.c (.nm 60)]) rfl rfl rfl (by repeat (first | trivial | refine ⟨fun _ _ => ⟨_, rfl⟩, ?_⟩)))) <|
 .r 0 1 108 [0, 8, 9, 10, 53, 56] [105, 106, 107] <|
 .bind (F_r27_Put r8 (IntKind.wrap .u64 (r9)) 4) fun r10 hr10 =>
 .s (.call [(1, 107)] [(900, 108)] (c_r27_Put hr10)) <|
 .r 0 1 109 [0, 7, 8, 9, 10] [105, 106, 108] <|
 .r 3 2 109 [0, 7, 9, 58, 59] [105, 106, 108] <|
 .gd ((j3.2.2.length + r7.length) * 1 ≤ 140737488355328) fun g11 =>
 .s (.appL (fInt .u8) (j3.2.2) (r7) (gT (fInt .u8) j3.2.2) (.inr rfl) 5 1 1 109 g11) <|
 .r 0 1 110 [0, 7, 8, 9] [108, 109] <|
 .r 4 3 110 [0, 7, 8, 9] [108, 109] <|
 .s (.cn [0, 7, 8, 9] [108, 109]) <|
 .s (.rn 108 104) <|
 .s (.rn 109 105) <|
 .lf 1 [0, 7, 8, 9] [104, 105] (.inl ((IntKind.wrap .i64 (j3.1 + 1)), r10, (j3.2.2 ++ r7)))
 ) (
 .lf 1 [7, 8] [104, 105] (.inr (.inl (j3.2.1, j3.2.2)))
 )
 ) fun j2 =>
 .r 2 2 110 [8, 61, 62] [104, 105] <|
 .bind (F_r27_Crc j2.1) fun r12 hr12 =>
 .s (.call [(60, 104)] [] (Spec.lend 60 5 1 j2.1.length (gT (fInt .u8) j2.1) _ (c_r27_Crc hr12) (args := [.c (.nm 60)]) rfl rfl rfl (by repeat (first | trivial | refine ⟨fun _ _ => ⟨_, rfl⟩, ?_⟩)))) <|
 .r 0 1 110 [8, 61, 64] [104, 105] <|
 .bind (F_r27_Put j2.1 (IntKind.wrap .u64 (r12)) 4) fun r13 hr13 =>
 .s (.call [(1, 104)] [(900, 110)] (c_r27_Put hr13)) <|
 .r 0 1 111 [65, 66] [105, 110] <|
 .gd ((r13.length + j2.2.length) * 1 ≤ 140737488355328) fun g14 =>
 .s (.appL (fInt .u8) (r13) (j2.2) (gT (fInt .u8) r13) (.inr rfl) 5 1 1 111 g14) <|
 .r 0 2 112 [2, 3] [111] <|
 .s (.rn 111 900) <|
 .lf 3 [2, 3] [900] ((r13 ++ j2.2), 0)
 )
/-- logtide/logtideref27.Encode -/
theorem c_r27_Encode {p0 : List S_Event} {r : List Int × Int} (h : F_r27_Encode p0 = some r) : Spec Tryz.prog 24 [.c (.d (.ro 10 p0.length (gT fS_Event p0)))] [] (.tup [.c (.nm 900), xi r.2]) [(900, .rows 5 1 r.1.length (gT (fInt .u8) r.1))] :=
  Cert.spec [900] (fun r : List Int × Int => .tup [.c (.nm 900), xi r.2]) (fun r => [(900, .rows 5 1 r.1.length (gT (fInt .u8) r.1))]) (z_r27_Encode p0) Tryz.func24 rfl (by kernel_rfl) h
noncomputable def L_r30_tallies_2 (p0 : List S_Tally) (j2 : Int) : Option ((Int) ⊕ ((Unit) ⊕ (Bool))) :=
 cond (decide (j2 < (p0.length : Int))) (
 gd ((0 : Int) ≤ j2 ∧ j2 < (p0.length : Int)) (
 gd ((0 : Int) ≤ (IntKind.wrap .i64 (j2 - 1)) ∧ (IntKind.wrap .i64 (j2 - 1)) < (p0.length : Int)) (
 gd ((!(decide (((p0.getD (Int.toNat j2) default).Host) < ((p0.getD (Int.toNat (IntKind.wrap .i64 (j2 - 1))) default).Host)))) = true → (0 : Int) ≤ j2 ∧ j2 < (p0.length : Int)) (
 gd ((!(decide (((p0.getD (Int.toNat j2) default).Host) < ((p0.getD (Int.toNat (IntKind.wrap .i64 (j2 - 1))) default).Host)))) = true → (0 : Int) ≤ (IntKind.wrap .i64 (j2 - 1)) ∧ (IntKind.wrap .i64 (j2 - 1)) < (p0.length : Int)) (
 gd (((!(decide (((p0.getD (Int.toNat j2) default).Host) < ((p0.getD (Int.toNat (IntKind.wrap .i64 (j2 - 1))) default).Host)))) && (((p0.getD (Int.toNat j2) default).Host) == ((p0.getD (Int.toNat (IntKind.wrap .i64 (j2 - 1))) default).Host))) = true → (0 : Int) ≤ j2 ∧ j2 < (p0.length : Int)) (
 gd (((!(decide (((p0.getD (Int.toNat j2) default).Host) < ((p0.getD (Int.toNat (IntKind.wrap .i64 (j2 - 1))) default).Host)))) && (((p0.getD (Int.toNat j2) default).Host) == ((p0.getD (Int.toNat (IntKind.wrap .i64 (j2 - 1))) default).Host))) = true → (0 : Int) ≤ (IntKind.wrap .i64 (j2 - 1)) ∧ (IntKind.wrap .i64 (j2 - 1)) < (p0.length : Int)) (
 bd (cond (decide (((p0.getD (Int.toNat j2) default).Host) < ((p0.getD (Int.toNat (IntKind.wrap .i64 (j2 - 1))) default).Host))) true (cond (((p0.getD (Int.toNat j2) default).Host) == ((p0.getD (Int.toNat (IntKind.wrap .i64 (j2 - 1))) default).Host)) ((Op.bytesLess ((p0.getD (Int.toNat j2) default).Rule).toList ((p0.getD (Int.toNat (IntKind.wrap .i64 (j2 - 1))) default).Rule).toList) || (((p0.getD (Int.toNat j2) default).Rule).toList == ((p0.getD (Int.toNat (IntKind.wrap .i64 (j2 - 1))) default).Rule).toList)) false)) fun x7 =>
 cond x7 (
 some (.inr (.inr (false)))) (
 some (.inl (IntKind.wrap .i64 (j2 + 1))))))))))) (
 some (.inr (.inl ())))
noncomputable def F_r30_tallies (p0 : List S_Tally) : Option (Bool) :=
 bindE (σ := (Unit)) (
 loop (L_r30_tallies_2 p0) 1) fun j1 =>
 some true
noncomputable def z_r30_tallies (p0 : List S_Tally) : Cert Tryz.prog 50 (Bool) :=
 .r 2 1 100 [0] [] <|
 .sq 2 (fun j1 : (Unit) => ⟨[], []⟩) (
 .r 2 1 100 [0, 3] [] <|
 .s (.cn [0, 3] []) <|
 .lp 3 (fun j2 : (Int) => ⟨[(0, .c (.d (.ro 3 p0.length (gT fS_Tally p0)))), (3, xi j2)], []⟩) 1 fun j2 =>
 .r 3 4 100 [0, 3, 7] [] <|
 .cond 2 (
 .s (.cn [0, 3] []) <|
 .gd ((0 : Int) ≤ j2 ∧ j2 < (p0.length : Int)) fun g1 =>
 .gd ((0 : Int) ≤ (IntKind.wrap .i64 (j2 - 1)) ∧ (IntKind.wrap .i64 (j2 - 1)) < (p0.length : Int)) fun g2 =>
 .gd ((!(decide (((p0.getD (Int.toNat j2) default).Host) < ((p0.getD (Int.toNat (IntKind.wrap .i64 (j2 - 1))) default).Host)))) = true → (0 : Int) ≤ j2 ∧ j2 < (p0.length : Int)) fun g3 =>
 .gd ((!(decide (((p0.getD (Int.toNat j2) default).Host) < ((p0.getD (Int.toNat (IntKind.wrap .i64 (j2 - 1))) default).Host)))) = true → (0 : Int) ≤ (IntKind.wrap .i64 (j2 - 1)) ∧ (IntKind.wrap .i64 (j2 - 1)) < (p0.length : Int)) fun g4 =>
 .gd (((!(decide (((p0.getD (Int.toNat j2) default).Host) < ((p0.getD (Int.toNat (IntKind.wrap .i64 (j2 - 1))) default).Host)))) && (((p0.getD (Int.toNat j2) default).Host) == ((p0.getD (Int.toNat (IntKind.wrap .i64 (j2 - 1))) default).Host))) = true → (0 : Int) ≤ j2 ∧ j2 < (p0.length : Int)) fun g5 =>
 .gd (((!(decide (((p0.getD (Int.toNat j2) default).Host) < ((p0.getD (Int.toNat (IntKind.wrap .i64 (j2 - 1))) default).Host)))) && (((p0.getD (Int.toNat j2) default).Host) == ((p0.getD (Int.toNat (IntKind.wrap .i64 (j2 - 1))) default).Host))) = true → (0 : Int) ≤ (IntKind.wrap .i64 (j2 - 1)) ∧ (IntKind.wrap .i64 (j2 - 1)) < (p0.length : Int)) fun g6 =>
 .m 5 <|
 .s (.dr [] (let u4 := (IntKind.wrap .i64 (j2 - 1)); let u6 := ((p0.getD (Int.toNat j2) default).Host); let u7 := ((p0.getD (Int.toNat u4) default).Host); let u1 := (!(decide (u6 < u7))); let u2 := (u1 && (u6 == u7)); let u3 := (u1 = true → u1 = true); let u5 := (u2 = true → u2 = true); [(2, some (((0 : Int) ≤ j2 ∧ j2 < (p0.length : Int)))), (8, some (((0 : Int) ≤ u4 ∧ u4 < (p0.length : Int)))), (15, some (((u3 ∧ u3) ∧ (u1 = true → (0 : Int) ≤ j2 ∧ j2 < (p0.length : Int))))), (16, some (u3)), (17, some (u3)), (20, some (u3)), (21, some (((u3 ∧ u3) ∧ (u1 = true → (0 : Int) ≤ u4 ∧ u4 < (p0.length : Int))))), (22, some (u3)), (23, some (u3)), (24, some ((u3 ∧ u3))), (25, some (u3)), (28, some (((u5 ∧ u5) ∧ (u2 = true → (0 : Int) ≤ j2 ∧ j2 < (p0.length : Int))))), (29, some (u5)), (30, some (u5)), (33, some (u5)), (34, some (((u5 ∧ u5) ∧ (u2 = true → (0 : Int) ≤ u4 ∧ u4 < (p0.length : Int))))), (35, some (u5)), (36, some (u5)), (37, some ((u5 ∧ u5))), (38, some ((u3 ∧ (u1 = true → (u6 == u7) = true → u2 = true)))), (39, some (((decide (u6 < u7)) = false → u1 = true)))]) (obsAll.cons (ob1 g1) (obsAll.cons (ob1 g2) (obsAll.cons (ob1 (⟨⟨fun h => h, fun h => h⟩, g3⟩)) (obsAll.cons (ob1 (fun h => h)) (obsAll.cons (ob1 (fun h => h)) (obsAll.cons (ob1 (fun h => h)) (obsAll.cons (ob1 (⟨⟨fun h => h, fun h => h⟩, g4⟩)) (obsAll.cons (ob1 (fun h => h)) (obsAll.cons (ob1 (fun h => h)) (obsAll.cons (ob1 (⟨fun h => h, fun h => h⟩)) (obsAll.cons (ob1 (fun h => h)) (obsAll.cons (ob1 (⟨⟨fun h => h, fun h => h⟩, g5⟩)) (obsAll.cons (ob1 (fun h => h)) (obsAll.cons (ob1 (fun h => h)) (obsAll.cons (ob1 (fun h => h)) (obsAll.cons (ob1 (⟨⟨fun h => h, fun h => h⟩, g6⟩)) (obsAll.cons (ob1 (fun h => h)) (obsAll.cons (ob1 (fun h => h)) (obsAll.cons (ob1 (⟨fun h => h, fun h => h⟩)) (obsAll.cons (ob1 (⟨fun h => h, (fun h1 h2 => by rw [h1, h2]; rfl)⟩)) (obsAll.cons (ob1 (fun h => by rw [h]; rfl)) obsAll.nil))))))))))))))))))))) [0, 3, 49] []) <|
 .bs ((cond (decide (((p0.getD (Int.toNat j2) default).Host) < ((p0.getD (Int.toNat (IntKind.wrap .i64 (j2 - 1))) default).Host))) true (cond (((p0.getD (Int.toNat j2) default).Host) == ((p0.getD (Int.toNat (IntKind.wrap .i64 (j2 - 1))) default).Host)) ((Op.bytesLess ((p0.getD (Int.toNat j2) default).Rule).toList ((p0.getD (Int.toNat (IntKind.wrap .i64 (j2 - 1))) default).Rule).toList) || (((p0.getD (Int.toNat j2) default).Rule).toList == ((p0.getD (Int.toNat (IntKind.wrap .i64 (j2 - 1))) default).Rule).toList)) false))) [49] xb fun x7 =>
 .cond 2 (
 .r 2 1 100 [2] [] <|
 .lf 3 [2] [] (.inr (.inr (false)))
 ) (
 .r 4 3 100 [0, 3] [] <|
 .lf 1 [0, 3] [] (.inl (IntKind.wrap .i64 (j2 + 1)))
 )
 ) (
 .lf 1 [] [] (.inr (.inl ()))
 )
 ) fun j1 =>
 .r 2 1 100 [2] [] <|
 .lf 3 [2] [] true
/-- logtide/logtideref30.tallies -/
theorem c_r30_tallies {p0 : List S_Tally} {r : Bool} (h : F_r30_tallies p0 = some r) : Spec Tryz.prog 79 [.c (.d (.ro 3 p0.length (gT fS_Tally p0)))] [] (xb r) [] :=
  Cert.spec [] (fun r : Bool => xb r) (fun r => []) (z_r30_tallies p0) Tryz.func79 rfl (by kernel_rfl) h
noncomputable def L_r30_Check_2 (p0 : S_Manifest) (j2 : Int) : Option ((Int) ⊕ ((Unit) ⊕ (Int))) :=
 cond (decide (j2 < (p0.Segments.length : Int))) (
 gd ((0 : Int) ≤ j2 ∧ j2 < (p0.Segments.length : Int)) (
 bd (cond (cond (cond (cond (cond (cond (cond (decide (((p0.Segments.getD (Int.toNat j2) default).ID) < 0)) true (decide (((p0.Segments.getD (Int.toNat j2) default).ID) ≥ p0.NextID))) true (decide (((p0.Segments.getD (Int.toNat j2) default).Level) < 0))) true (decide (((p0.Segments.getD (Int.toNat j2) default).Count) < 0))) true (decide (((p0.Segments.getD (Int.toNat j2) default).Size) < 0))) true (decide (((p0.Segments.getD (Int.toNat j2) default).Tier) < 0))) true (decide (((p0.Segments.getD (Int.toNat j2) default).Tier) > 2))) true (decide (((p0.Segments.getD (Int.toNat j2) default).MinTime) > ((p0.Segments.getD (Int.toNat j2) default).MaxTime)))) fun x3 =>
 cond x3 (
 some (.inr (.inr (2)))) (
 some (.inl (IntKind.wrap .i64 (j2 + 1)))))) (
 some (.inr (.inl ())))
noncomputable def L_r30_Check_4 (p0 : S_Manifest) (j4 : Int) : Option ((Int) ⊕ ((Unit) ⊕ (Int))) :=
 cond (decide (j4 < (p0.Segments.length : Int))) (
 gd ((0 : Int) ≤ j4 ∧ j4 < (p0.Segments.length : Int)) (
 gd ((0 : Int) ≤ (IntKind.wrap .i64 (j4 - 1)) ∧ (IntKind.wrap .i64 (j4 - 1)) < (p0.Segments.length : Int)) (
 bd (decide (((p0.Segments.getD (Int.toNat j4) default).ID) ≤ ((p0.Segments.getD (Int.toNat (IntKind.wrap .i64 (j4 - 1))) default).ID))) fun x6 =>
 cond x6 (
 some (.inr (.inr (19)))) (
 some (.inl (IntKind.wrap .i64 (j4 + 1))))))) (
 some (.inr (.inl ())))
noncomputable def L_r30_Check_6 (p0 : S_Manifest) (j6 : Int) : Option ((Int) ⊕ ((Unit) ⊕ (Int))) :=
 cond (decide (j6 < (p0.Intake.Marks.length : Int))) (
 gd ((0 : Int) ≤ j6 ∧ j6 < (p0.Intake.Marks.length : Int)) (
 gd ((0 : Int) ≤ (IntKind.wrap .i64 (j6 - 1)) ∧ (IntKind.wrap .i64 (j6 - 1)) < (p0.Intake.Marks.length : Int)) (
 gd ((!(decide (((p0.Intake.Marks.getD (Int.toNat j6) default).Host) < ((p0.Intake.Marks.getD (Int.toNat (IntKind.wrap .i64 (j6 - 1))) default).Host)))) = true → (0 : Int) ≤ j6 ∧ j6 < (p0.Intake.Marks.length : Int)) (
 gd ((!(decide (((p0.Intake.Marks.getD (Int.toNat j6) default).Host) < ((p0.Intake.Marks.getD (Int.toNat (IntKind.wrap .i64 (j6 - 1))) default).Host)))) = true → (0 : Int) ≤ (IntKind.wrap .i64 (j6 - 1)) ∧ (IntKind.wrap .i64 (j6 - 1)) < (p0.Intake.Marks.length : Int)) (
 gd (((!(decide (((p0.Intake.Marks.getD (Int.toNat j6) default).Host) < ((p0.Intake.Marks.getD (Int.toNat (IntKind.wrap .i64 (j6 - 1))) default).Host)))) && (((p0.Intake.Marks.getD (Int.toNat j6) default).Host) == ((p0.Intake.Marks.getD (Int.toNat (IntKind.wrap .i64 (j6 - 1))) default).Host))) = true → (0 : Int) ≤ j6 ∧ j6 < (p0.Intake.Marks.length : Int)) (
 gd (((!(decide (((p0.Intake.Marks.getD (Int.toNat j6) default).Host) < ((p0.Intake.Marks.getD (Int.toNat (IntKind.wrap .i64 (j6 - 1))) default).Host)))) && (((p0.Intake.Marks.getD (Int.toNat j6) default).Host) == ((p0.Intake.Marks.getD (Int.toNat (IntKind.wrap .i64 (j6 - 1))) default).Host))) = true → (0 : Int) ≤ (IntKind.wrap .i64 (j6 - 1)) ∧ (IntKind.wrap .i64 (j6 - 1)) < (p0.Intake.Marks.length : Int)) (
 bd (cond (decide (((p0.Intake.Marks.getD (Int.toNat j6) default).Host) < ((p0.Intake.Marks.getD (Int.toNat (IntKind.wrap .i64 (j6 - 1))) default).Host))) true (cond (((p0.Intake.Marks.getD (Int.toNat j6) default).Host) == ((p0.Intake.Marks.getD (Int.toNat (IntKind.wrap .i64 (j6 - 1))) default).Host)) (decide (((p0.Intake.Marks.getD (Int.toNat j6) default).File) ≤ ((p0.Intake.Marks.getD (Int.toNat (IntKind.wrap .i64 (j6 - 1))) default).File))) false)) fun x13 =>
 cond x13 (
 some (.inr (.inr (19)))) (
 some (.inl (IntKind.wrap .i64 (j6 + 1))))))))))) (
 some (.inr (.inl ())))
noncomputable def F_r30_Check (p0 : S_Manifest) : Option (Int) :=
 cond (decide ((p0.Segments.length : Int) > 64)) (
 some 4) (
 bd (cond (cond (decide (p0.Number < 0)) true (decide (p0.NextID < 0))) true (decide (p0.Journal < 0))) fun x1 =>
 cond x1 (
 some 2) (
 bindE (σ := (Unit)) (
 loop (L_r30_Check_2 p0) 0) fun j1 =>
 bindE (σ := (Unit)) (
 loop (L_r30_Check_4 p0) 1) fun j3 =>
 bindE (σ := (Unit)) (
 loop (L_r30_Check_6 p0) 1) fun j5 =>
 bnd (F_r30_tallies p0.Intake.Tallies) fun r14 =>
 bnd (cond (!(!r14)) (F_r30_tallies p0.Expired) (some (false))) fun r15 =>
 cond (cond (!r14) true (!r15)) (
 some 19) (
 some 0)))
noncomputable def z_r30_Check (p0 : S_Manifest) : Cert Tryz.prog 160 (Int) :=
 .r 2 2 100 [1] [100] <|
 .r 5 4 101 [1, 11] [100] <|
 .cond 2 (
 .r 2 1 101 [2] [] <|
 .lf 3 [2] [] 4
 ) (
 .rp 5 13 101 [1, 24] [100] (let u2 := (decide (p0.Number < 0)); let u1 := (cond u2 true (decide (p0.NextID < 0))); some ((((!u2) = true → (!u2) = true) ∧ (((!u2) = true → (!u2) = true) ∧ ((u2 = false → (!u2) = true) ∧ (((!u1) = true → (!u1) = true) ∧ (((!u1) = true → (!u1) = true) ∧ (u1 = false → (!u1) = true)))))))) (ob1 (⟨fun h => h, ⟨fun h => h, ⟨(fun h => by rw [h]; rfl), ⟨fun h => h, ⟨fun h => h, (fun h => by rw [h]; rfl)⟩⟩⟩⟩⟩)) <|
 .bs ((cond (cond (decide (p0.Number < 0)) true (decide (p0.NextID < 0))) true (decide (p0.Journal < 0)))) [24] xb fun x1 =>
 .cond 2 (
 .r 2 1 101 [2] [] <|
 .lf 3 [2] [] 2
 ) (
 .sq 2 (fun j1 : (Unit) => ⟨[(1, .c (.np 100 7 0 0))], [(100, .box 31 (bS_Manifest p0))]⟩) (
 .r 2 1 101 [1, 3] [100] <|
 .s (.cn [1, 3] [100]) <|
 .lp 3 (fun j2 : (Int) => ⟨[(1, .c (.np 100 7 0 0)), (3, xi j2)], [(100, .box 31 (bS_Manifest p0))]⟩) 0 fun j2 =>
 .r 3 5 101 [1, 3, 29] [100] <|
 .cond 2 (
 .gd ((0 : Int) ≤ j2 ∧ j2 < (p0.Segments.length : Int)) fun g2 =>
 .rp 6 7 101 [1, 3, 4] [100, 101] (some (((0 : Int) ≤ j2 ∧ j2 < (p0.Segments.length : Int)))) (ob1 g2) <|
 .rp 4 42 102 [1, 3, 78] [100] (let u2 := (p0.Segments.getD (Int.toNat j2) default); let u10 := (decide ((u2.ID) < 0)); let u4 := (cond u10 true (decide ((u2.ID) ≥ p0.NextID))); let u6 := (cond u4 true (decide ((u2.Level) < 0))); let u1 := (cond u6 true (decide ((u2.Count) < 0))); let u7 := (cond u1 true (decide ((u2.Size) < 0))); let u3 := (cond u7 true (decide ((u2.Tier) < 0))); let u5 := (cond u3 true (decide ((u2.Tier) > 2))); let u8 := ((!u10) = true → (!u10) = true); let u9 := ((!u5) = true → (!u5) = true); some ((u8 ∧ (u8 ∧ ((u8 ∧ u8) ∧ ((u10 = false → (!u10) = true) ∧ (((!u4) = true → (!u4) = true) ∧ (((!u4) = true → (!u4) = true) ∧ ((u4 = false → (!u4) = true) ∧ (((!u6) = true → (!u6) = true) ∧ (((!u6) = true → (!u6) = true) ∧ ((u6 = false → (!u6) = true) ∧ (((!u1) = true → (!u1) = true) ∧ (((!u1) = true → (!u1) = true) ∧ ((u1 = false → (!u1) = true) ∧ (((!u7) = true → (!u7) = true) ∧ (((!u7) = true → (!u7) = true) ∧ ((u7 = false → (!u7) = true) ∧ (((!u3) = true → (!u3) = true) ∧ (((!u3) = true → (!u3) = true) ∧ ((u3 = false → (!u3) = true) ∧ (u9 ∧ (u9 ∧ ((u9 ∧ u9) ∧ (u5 = false → (!u5) = true))))))))))))))))))))))))) (ob1 (⟨fun h => h, ⟨fun h => h, ⟨⟨fun h => h, fun h => h⟩, ⟨(fun h => by rw [h]; rfl), ⟨fun h => h, ⟨fun h => h, ⟨(fun h => by rw [h]; rfl), ⟨fun h => h, ⟨fun h => h, ⟨(fun h => by rw [h]; rfl), ⟨fun h => h, ⟨fun h => h, ⟨(fun h => by rw [h]; rfl), ⟨fun h => h, ⟨fun h => h, ⟨(fun h => by rw [h]; rfl), ⟨fun h => h, ⟨fun h => h, ⟨(fun h => by rw [h]; rfl), ⟨fun h => h, ⟨fun h => h, ⟨⟨fun h => h, fun h => h⟩, (fun h => by rw [h]; rfl)⟩⟩⟩⟩⟩⟩⟩⟩⟩⟩⟩⟩⟩⟩⟩⟩⟩⟩⟩⟩⟩⟩)) <|
 .bs ((cond (cond (cond (cond (cond (cond (cond (decide (((p0.Segments.getD (Int.toNat j2) default).ID) < 0)) true (decide (((p0.Segments.getD (Int.toNat j2) default).ID) ≥ p0.NextID))) true (decide (((p0.Segments.getD (Int.toNat j2) default).Level) < 0))) true (decide (((p0.Segments.getD (Int.toNat j2) default).Count) < 0))) true (decide (((p0.Segments.getD (Int.toNat j2) default).Size) < 0))) true (decide (((p0.Segments.getD (Int.toNat j2) default).Tier) < 0))) true (decide (((p0.Segments.getD (Int.toNat j2) default).Tier) > 2))) true (decide (((p0.Segments.getD (Int.toNat j2) default).MinTime) > ((p0.Segments.getD (Int.toNat j2) default).MaxTime))))) [78] xb fun x3 =>
 .cond 2 (
 .r 2 1 102 [2] [] <|
 .lf 3 [2] [] (.inr (.inr (2)))
 ) (
 .r 4 3 102 [1, 3] [100] <|
 .lf 1 [1, 3] [100] (.inl (IntKind.wrap .i64 (j2 + 1)))
 )
 ) (
 .lf 1 [1] [100] (.inr (.inl ()))
 )
 ) fun j1 =>
 .sq 0 (fun j3 : (Unit) => ⟨[(1, .c (.np 100 7 0 0))], [(100, .box 31 (bS_Manifest p0))]⟩) (
 .r 2 1 102 [1, 5] [100] <|
 .s (.cn [1, 5] [100]) <|
 .lp 3 (fun j4 : (Int) => ⟨[(1, .c (.np 100 7 0 0)), (5, xi j4)], [(100, .box 31 (bS_Manifest p0))]⟩) 1 fun j4 =>
 .r 3 5 102 [1, 5, 83] [100] <|
 .cond 2 (
 .s (.cn [1, 5] [100]) <|
 .gd ((0 : Int) ≤ j4 ∧ j4 < (p0.Segments.length : Int)) fun g4 =>
 .gd ((0 : Int) ≤ (IntKind.wrap .i64 (j4 - 1)) ∧ (IntKind.wrap .i64 (j4 - 1)) < (p0.Segments.length : Int)) fun g5 =>
 .m 5 <|
 .s (.dr [] ([(3, some (((0 : Int) ≤ j4 ∧ j4 < (p0.Segments.length : Int)))), (10, some (((0 : Int) ≤ (IntKind.wrap .i64 (j4 - 1)) ∧ (IntKind.wrap .i64 (j4 - 1)) < (p0.Segments.length : Int))))]) (obsAll.cons (ob1 g4) (obsAll.cons (ob1 g5) obsAll.nil)) [1, 5, 99] [100]) <|
 .bs ((decide (((p0.Segments.getD (Int.toNat j4) default).ID) ≤ ((p0.Segments.getD (Int.toNat (IntKind.wrap .i64 (j4 - 1))) default).ID)))) [99] xb fun x6 =>
 .cond 2 (
 .r 2 1 102 [2] [] <|
 .lf 3 [2] [] (.inr (.inr (19)))
 ) (
 .r 4 3 102 [1, 5] [100] <|
 .lf 1 [1, 5] [100] (.inl (IntKind.wrap .i64 (j4 + 1)))
 )
 ) (
 .lf 1 [1] [100] (.inr (.inl ()))
 )
 ) fun j3 =>
 .r 2 4 102 [1, 6] [100] <|
 .sq 2 (fun j5 : (Unit) => ⟨[(1, .c (.np 100 7 0 0))], [(100, .box 31 (bS_Manifest p0))]⟩) (
 .r 2 1 102 [1, 6, 7] [100] <|
 .s (.cn [1, 6, 7] [100]) <|
 .lp 3 (fun j6 : (Int) => ⟨[(1, .c (.np 100 7 0 0)), (6, .c (.d (.ro 3 p0.Intake.Marks.length (gT fS_Mark p0.Intake.Marks)))), (7, xi j6)], [(100, .box 31 (bS_Manifest p0))]⟩) 1 fun j6 =>
 .r 3 4 102 [1, 6, 7, 106] [100] <|
 .cond 2 (
 .s (.cn [1, 6, 7] [100]) <|
 .gd ((0 : Int) ≤ j6 ∧ j6 < (p0.Intake.Marks.length : Int)) fun g7 =>
 .gd ((0 : Int) ≤ (IntKind.wrap .i64 (j6 - 1)) ∧ (IntKind.wrap .i64 (j6 - 1)) < (p0.Intake.Marks.length : Int)) fun g8 =>
 .gd ((!(decide (((p0.Intake.Marks.getD (Int.toNat j6) default).Host) < ((p0.Intake.Marks.getD (Int.toNat (IntKind.wrap .i64 (j6 - 1))) default).Host)))) = true → (0 : Int) ≤ j6 ∧ j6 < (p0.Intake.Marks.length : Int)) fun g9 =>
 .gd ((!(decide (((p0.Intake.Marks.getD (Int.toNat j6) default).Host) < ((p0.Intake.Marks.getD (Int.toNat (IntKind.wrap .i64 (j6 - 1))) default).Host)))) = true → (0 : Int) ≤ (IntKind.wrap .i64 (j6 - 1)) ∧ (IntKind.wrap .i64 (j6 - 1)) < (p0.Intake.Marks.length : Int)) fun g10 =>
 .gd (((!(decide (((p0.Intake.Marks.getD (Int.toNat j6) default).Host) < ((p0.Intake.Marks.getD (Int.toNat (IntKind.wrap .i64 (j6 - 1))) default).Host)))) && (((p0.Intake.Marks.getD (Int.toNat j6) default).Host) == ((p0.Intake.Marks.getD (Int.toNat (IntKind.wrap .i64 (j6 - 1))) default).Host))) = true → (0 : Int) ≤ j6 ∧ j6 < (p0.Intake.Marks.length : Int)) fun g11 =>
 .gd (((!(decide (((p0.Intake.Marks.getD (Int.toNat j6) default).Host) < ((p0.Intake.Marks.getD (Int.toNat (IntKind.wrap .i64 (j6 - 1))) default).Host)))) && (((p0.Intake.Marks.getD (Int.toNat j6) default).Host) == ((p0.Intake.Marks.getD (Int.toNat (IntKind.wrap .i64 (j6 - 1))) default).Host))) = true → (0 : Int) ≤ (IntKind.wrap .i64 (j6 - 1)) ∧ (IntKind.wrap .i64 (j6 - 1)) < (p0.Intake.Marks.length : Int)) fun g12 =>
 .m 5 <|
 .s (.dr [] (let u6 := (IntKind.wrap .i64 (j6 - 1)); let u4 := ((p0.Intake.Marks.getD (Int.toNat u6) default).Host); let u7 := ((p0.Intake.Marks.getD (Int.toNat j6) default).Host); let u1 := (!(decide (u7 < u4))); let u2 := (u1 && (u7 == u4)); let u3 := (u1 = true → u1 = true); let u5 := (u2 = true → u2 = true); let u8 := (p0.Intake.Marks.length : Int); [(2, some (((0 : Int) ≤ j6 ∧ j6 < u8))), (8, some (((0 : Int) ≤ u6 ∧ u6 < u8))), (15, some (((u3 ∧ u3) ∧ (u1 = true → (0 : Int) ≤ j6 ∧ j6 < u8)))), (16, some (u3)), (17, some (u3)), (20, some (u3)), (21, some (((u3 ∧ u3) ∧ (u1 = true → (0 : Int) ≤ u6 ∧ u6 < u8)))), (22, some (u3)), (23, some (u3)), (24, some ((u3 ∧ u3))), (25, some (u3)), (28, some (((u5 ∧ u5) ∧ (u2 = true → (0 : Int) ≤ j6 ∧ j6 < u8)))), (29, some (u5)), (30, some (u5)), (33, some (u5)), (34, some (((u5 ∧ u5) ∧ (u2 = true → (0 : Int) ≤ u6 ∧ u6 < u8)))), (35, some (u5)), (36, some (u5)), (37, some ((u5 ∧ u5))), (38, some ((u3 ∧ (u1 = true → (u7 == u4) = true → u2 = true)))), (39, some (((decide (u7 < u4)) = false → u1 = true)))]) (obsAll.cons (ob1 g7) (obsAll.cons (ob1 g8) (obsAll.cons (ob1 (⟨⟨fun h => h, fun h => h⟩, g9⟩)) (obsAll.cons (ob1 (fun h => h)) (obsAll.cons (ob1 (fun h => h)) (obsAll.cons (ob1 (fun h => h)) (obsAll.cons (ob1 (⟨⟨fun h => h, fun h => h⟩, g10⟩)) (obsAll.cons (ob1 (fun h => h)) (obsAll.cons (ob1 (fun h => h)) (obsAll.cons (ob1 (⟨fun h => h, fun h => h⟩)) (obsAll.cons (ob1 (fun h => h)) (obsAll.cons (ob1 (⟨⟨fun h => h, fun h => h⟩, g11⟩)) (obsAll.cons (ob1 (fun h => h)) (obsAll.cons (ob1 (fun h => h)) (obsAll.cons (ob1 (fun h => h)) (obsAll.cons (ob1 (⟨⟨fun h => h, fun h => h⟩, g12⟩)) (obsAll.cons (ob1 (fun h => h)) (obsAll.cons (ob1 (fun h => h)) (obsAll.cons (ob1 (⟨fun h => h, fun h => h⟩)) (obsAll.cons (ob1 (⟨fun h => h, (fun h1 h2 => by rw [h1, h2]; rfl)⟩)) (obsAll.cons (ob1 (fun h => by rw [h]; rfl)) obsAll.nil))))))))))))))))))))) [1, 6, 7, 148] [100]) <|
 .bs ((cond (decide (((p0.Intake.Marks.getD (Int.toNat j6) default).Host) < ((p0.Intake.Marks.getD (Int.toNat (IntKind.wrap .i64 (j6 - 1))) default).Host))) true (cond (((p0.Intake.Marks.getD (Int.toNat j6) default).Host) == ((p0.Intake.Marks.getD (Int.toNat (IntKind.wrap .i64 (j6 - 1))) default).Host)) (decide (((p0.Intake.Marks.getD (Int.toNat j6) default).File) ≤ ((p0.Intake.Marks.getD (Int.toNat (IntKind.wrap .i64 (j6 - 1))) default).File))) false))) [148] xb fun x13 =>
 .cond 2 (
 .r 2 1 102 [2] [] <|
 .lf 3 [2] [] (.inr (.inr (19)))
 ) (
 .r 4 3 102 [1, 6, 7] [100] <|
 .lf 1 [1, 6, 7] [100] (.inl (IntKind.wrap .i64 (j6 + 1)))
 )
 ) (
 .lf 1 [1] [100] (.inr (.inl ()))
 )
 ) fun j5 =>
 .r 3 3 102 [1, 151] [100] <|
 .bind (F_r30_tallies p0.Intake.Tallies) fun r14 hr14 =>
 .s (.call [] [] (c_r30_tallies hr14)) <|
 .rp 0 4 102 [154, 156] [] (some (((!(!r14)) = true → (!(!r14)) = true))) (ob1 (fun h => h)) <|
 .callG (!(!r14)) (F_r30_tallies p0.Expired) (false) [] (some (((!(!r14)) = true → (!(!r14)) = true))) (ob1 (fun h => h)) (fun r h => (c_r30_tallies h)) fun r15 =>
 .rp 0 2 102 [159] [] (some ((((!(!r14)) = true → (!(!r14)) = true) ∧ ((!r14) = false → (!(!r14)) = true)))) (ob1 (⟨fun h => h, (fun h => by rw [h]; rfl)⟩)) <|
 .cond 2 (
 .r 2 1 102 [2] [] <|
 .lf 3 [2] [] 19
 ) (
 .r 4 1 102 [2] [] <|
 .lf 3 [2] [] 0
 )
 )
 )
/-- logtide/logtideref30.Check -/
theorem c_r30_Check {p0 : S_Manifest} {r : Int} (h : F_r30_Check p0 = some r) : Spec Tryz.prog 51 [.agg (bS_Manifest p0)] [] (xi r) [] :=
  Cert.spec [] (fun r : Int => xi r) (fun r => []) (z_r30_Check p0) Tryz.func51 rfl (by kernel_rfl) h
noncomputable def F_r30_Add (p0 : S_Manifest) (p1 : S_SegmentInfo) : Option (S_Manifest × Int) :=
 bnd (F_r30_Check p0) fun r1 =>
 cond (r1 != 0) (
 some ((⟨(0 : Int), (0 : Int), (0 : Int), [], (⟨[], []⟩ : S_Intake), []⟩ : S_Manifest), r1)) (
 gd ((([] : List S_SegmentInfo).length + p0.Segments.length) * 56 ≤ 140737488355328) (
 gd (((([] : List S_SegmentInfo) ++ p0.Segments).length + 1) * 56 ≤ 140737488355328) (
 bd { { p0 with Segments := [] } with NextID := (IntKind.wrap .i64 ((({ p0 with Segments := [] }).NextID) + 1)) } fun x4 =>
 bnd (F_r30_Check ({ { x4 with Number := (IntKind.wrap .i64 (x4.Number + 1)) } with Segments := ((([] : List S_SegmentInfo) ++ p0.Segments) ++ [{ p1 with ID := p0.NextID }]) })) fun r5 =>
 cond (r5 != 0) (
 some ((⟨(0 : Int), (0 : Int), (0 : Int), [], (⟨[], []⟩ : S_Intake), []⟩ : S_Manifest), r5)) (
 some ({ { x4 with Number := (IntKind.wrap .i64 (x4.Number + 1)) } with Segments := ((([] : List S_SegmentInfo) ++ p0.Segments) ++ [{ p1 with ID := p0.NextID }]) }, 0)))))
noncomputable def z_r30_Add (p0 : S_Manifest) (p1 : S_SegmentInfo) : Cert Tryz.prog 39 (S_Manifest × Int) :=
 .r 2 4 100 [2, 3, 4] [100, 101, 102] <|
 .r 5 1 103 [2, 3, 4, 8] [100, 101, 102] <|
 .bind (F_r30_Check p0) fun r1 hr1 =>
 .s (.call [] [] (c_r30_Check hr1)) <|
 .r 0 1 103 [2, 3, 4, 6] [100, 101, 102] <|
 .r 4 2 103 [2, 3, 4, 6, 11] [100, 101, 102] <|
 .cond 2 (
 .r 2 4 103 [4, 5] [102] <|
 .s (.impB 102 31 (((((bS_Manifest (⟨(0 : Int), (0 : Int), (0 : Int), [], (⟨[], []⟩ : S_Intake), []⟩ : S_Manifest)).set 3 (.d (.v (.slice none 0 0)))).set 4 (.d (.v (.slice none 0 0)))).set 5 (.d (.v (.slice none 0 0)))).set 6 (.d (.v (.slice none 0 0)))) (bS_Manifest (⟨(0 : Int), (0 : Int), (0 : Int), [], (⟨[], []⟩ : S_Intake), []⟩ : S_Manifest)) (CsImp.cons CImp.same (CsImp.cons CImp.same (CsImp.cons CImp.same (CsImp.cons CImp.nil (CsImp.cons CImp.nil (CsImp.cons CImp.nil (CsImp.cons CImp.nil CsImp.nil)))))))) <|
 .lf 3 [4, 5] [102] ((⟨(0 : Int), (0 : Int), (0 : Int), [], (⟨[], []⟩ : S_Intake), []⟩ : S_Manifest), r1)
 ) (
 .r 4 4 103 [2, 3, 4] [100, 101, 102] <|
 .s (.cn [2, 3, 4] [100, 101, 102]) <|
 .gd ((([] : List S_SegmentInfo).length + p0.Segments.length) * 56 ≤ 140737488355328) fun g2 =>
 .gd (((([] : List S_SegmentInfo) ++ p0.Segments).length + 1) * 56 ≤ 140737488355328) fun g3 =>
 .m 3 <|
 .s (.dr [.appL fS_SegmentInfo (([] : List S_SegmentInfo)) (p0.Segments) (fun _ _ => .v undef) (.inl rfl) 2 none 54 7 56 103 g2, .app1 fS_SegmentInfo ((([] : List S_SegmentInfo) ++ p0.Segments)) ({ p1 with ID := p0.NextID }) (gT fS_SegmentInfo (([] : List S_SegmentInfo) ++ p0.Segments)) (.inr rfl) 5 (some 103) 54 7 56 104 g3, .stB 7 100 7 3 31 (bS_Manifest p0) ([.nm 104])] ([]) obsAll.nil [2, 4] [100, 102, 104]) <|
 .r 4 5 105 [2, 4] [100, 102, 104] <|
 .bh ({ { p0 with Segments := [] } with NextID := (IntKind.wrap .i64 ((({ p0 with Segments := [] }).NextID) + 1)) }) 100 (fun x4 => .box 31 ((bS_Manifest x4).set 3 (.nm 104))) fun x4 =>
 .r 4 5 105 [2, 4] [100, 102, 104] <|
 .r 5 1 105 [2, 4, 32] [100, 102, 104] <|
 .bind (F_r30_Check ({ { x4 with Number := (IntKind.wrap .i64 (x4.Number + 1)) } with Segments := ((([] : List S_SegmentInfo) ++ p0.Segments) ++ [{ p1 with ID := p0.NextID }]) })) fun r5 hr5 =>
 .s (.call [(60, 104)] [] (Spec.lend 60 54 7 ((([] : List S_SegmentInfo) ++ p0.Segments) ++ [{ p1 with ID := p0.NextID }]).length (gT fS_SegmentInfo ((([] : List S_SegmentInfo) ++ p0.Segments) ++ [{ p1 with ID := p0.NextID }])) _ (c_r30_Check hr5) (args := [.agg ((bS_Manifest ({ { x4 with Number := (IntKind.wrap .i64 (x4.Number + 1)) } with Segments := ((([] : List S_SegmentInfo) ++ p0.Segments) ++ [{ p1 with ID := p0.NextID }]) })).set 3 (.nm 60))]) rfl rfl rfl (by repeat (first | trivial | refine ⟨fun _ _ => ⟨_, rfl⟩, ?_⟩)))) <|
 .r 0 1 105 [2, 4, 7] [100, 102, 104] <|
 .r 4 2 105 [2, 4, 7, 35] [100, 102, 104] <|
 .cond 2 (
 .r 2 4 105 [4, 5] [102] <|
 .s (.impB 102 31 (((((bS_Manifest (⟨(0 : Int), (0 : Int), (0 : Int), [], (⟨[], []⟩ : S_Intake), []⟩ : S_Manifest)).set 3 (.d (.v (.slice none 0 0)))).set 4 (.d (.v (.slice none 0 0)))).set 5 (.d (.v (.slice none 0 0)))).set 6 (.d (.v (.slice none 0 0)))) (bS_Manifest (⟨(0 : Int), (0 : Int), (0 : Int), [], (⟨[], []⟩ : S_Intake), []⟩ : S_Manifest)) (CsImp.cons CImp.same (CsImp.cons CImp.same (CsImp.cons CImp.same (CsImp.cons CImp.nil (CsImp.cons CImp.nil (CsImp.cons CImp.nil (CsImp.cons CImp.nil CsImp.nil)))))))) <|
 .lf 3 [4, 5] [102] ((⟨(0 : Int), (0 : Int), (0 : Int), [], (⟨[], []⟩ : S_Intake), []⟩ : S_Manifest), r5)
 ) (
 .r 4 3 105 [4, 5] [102, 104] <|
 .s (.fz 104) <|
 .lf 3 [4, 5] [102] ({ { x4 with Number := (IntKind.wrap .i64 (x4.Number + 1)) } with Segments := ((([] : List S_SegmentInfo) ++ p0.Segments) ++ [{ p1 with ID := p0.NextID }]) }, 0)
 )
 )
/-- logtide/logtideref30.Add -/
theorem c_r30_Add {p0 : S_Manifest} {p1 : S_SegmentInfo} {r : S_Manifest × Int} (h : F_r30_Add p0 p1 = some r) : Spec Tryz.prog 25 [.agg (bS_Manifest p0), .agg (bS_SegmentInfo p1)] [] (.tup [.agg (bS_Manifest r.1), xi r.2]) [] :=
  Cert.spec [] (fun r : S_Manifest × Int => .tup [.agg (bS_Manifest r.1), xi r.2]) (fun r => []) (z_r30_Add p0 p1) Tryz.func25 rfl (by kernel_rfl) h
noncomputable def F_r33_less (p0 : S_Blob) (p1 : Int) (p2 : Int) : Option (Bool) :=
 some (cond (decide (p0.ID < p1)) true (cond (p0.ID == p1) (decide (p0.Tier < p2)) false))
noncomputable def z_r33_less (p0 : S_Blob) (p1 : Int) (p2 : Int) : Cert Tryz.prog 23 (Bool) :=
 .r 2 2 100 [1, 2, 3] [100] <|
 .rp 4 17 101 [6] [] (let u1 := (!(decide (p0.ID < p1))); let u3 := (u1 = true → u1 = true); let u4 := (u1 && (p0.ID == p1)); let u2 := (u4 = true → u4 = true); some ((u3 ∧ ((u3 ∧ u3) ∧ (u3 ∧ (u2 ∧ ((u2 ∧ u2) ∧ ((u3 ∧ (u1 = true → (p0.ID == p1) = true → u4 = true)) ∧ ((decide (p0.ID < p1)) = false → u1 = true))))))))) (ob1 (⟨fun h => h, ⟨⟨fun h => h, fun h => h⟩, ⟨fun h => h, ⟨fun h => h, ⟨⟨fun h => h, fun h => h⟩, ⟨⟨fun h => h, (fun h1 h2 => by rw [h1, h2]; rfl)⟩, (fun h => by rw [h]; rfl)⟩⟩⟩⟩⟩⟩)) <|
 .lf 3 [6] [] (cond (decide (p0.ID < p1)) true (cond (p0.ID == p1) (decide (p0.Tier < p2)) false))
/-- logtide/logtideref33.less -/
theorem c_r33_less {p0 : S_Blob} {p1 : Int} {p2 : Int} {r : Bool} (h : F_r33_less p0 p1 p2 = some r) : Spec Tryz.prog 80 [.agg (bS_Blob p0), xi p1, xi p2] [] (xb r) [] :=
  Cert.spec [] (fun r : Bool => xb r) (fun r => []) (z_r33_less p0 p1 p2) Tryz.func80 rfl (by kernel_rfl) h
noncomputable def L_r33_at_2 (p0 : List S_Blob) (p1 : Int) (p2 : Int) (j2 : Int) : Option ((Int) ⊕ ((Int) ⊕ (Int × Bool))) :=
 gd ((decide (j2 < (p0.length : Int))) = true → (0 : Int) ≤ j2 ∧ j2 < (p0.length : Int)) (
 bnd (cond (decide (j2 < (p0.length : Int))) (F_r33_less (p0.getD (Int.toNat j2) default) p1 p2) (some (false))) fun r2 =>
 cond (cond (decide (j2 < (p0.length : Int))) r2 false) (
 some (.inl (IntKind.wrap .i64 (j2 + 1)))) (
 some (.inr (.inl j2))))
noncomputable def F_r33_at (p0 : List S_Blob) (p1 : Int) (p2 : Int) : Option (Int × Bool) :=
 bindE (σ := (Int)) (
 loop (L_r33_at_2 p0 p1 p2) 0) fun j1 =>
 gd ((decide (j1 < (p0.length : Int))) = true → (0 : Int) ≤ j1 ∧ j1 < (p0.length : Int)) (
 gd ((cond (decide (j1 < (p0.length : Int))) (((p0.getD (Int.toNat j1) default).ID) == p1) false) = true → (0 : Int) ≤ j1 ∧ j1 < (p0.length : Int)) (
 bd (cond (cond (decide (j1 < (p0.length : Int))) (((p0.getD (Int.toNat j1) default).ID) == p1) false) (((p0.getD (Int.toNat j1) default).Tier) == p2) false) fun x5 =>
 some (j1, x5)))
noncomputable def z_r33_at (p0 : List S_Blob) (p1 : Int) (p2 : Int) : Cert Tryz.prog 47 (Int × Bool) :=
 .r 2 2 100 [0, 1, 2] [] <|
 .r 4 1 100 [0, 1, 2, 8] [] <|
 .sq 2 (fun j1 : (Int) => ⟨[(0, .c (.d (.ro 3 p0.length (gT fS_Blob p0)))), (1, xi p1), (2, xi p2), (8, xi j1)], []⟩) (
 .s (.cn [0, 1, 2, 8] []) <|
 .lp 1 (fun j2 : (Int) => ⟨[(0, .c (.d (.ro 3 p0.length (gT fS_Blob p0)))), (1, xi p1), (2, xi p2), (8, xi j2)], []⟩) 0 fun j2 =>
 .gd ((decide (j2 < (p0.length : Int))) = true → (0 : Int) ≤ j2 ∧ j2 < (p0.length : Int)) fun g1 =>
 .rp 3 11 100 [0, 1, 2, 8, 13, 17, 18, 19] [] (let u1 := (decide (j2 < (p0.length : Int))); let u2 := (u1 = true → u1 = true); some ((((u2 ∧ u2) ∧ (u1 = true → (0 : Int) ≤ j2 ∧ j2 < (p0.length : Int))) ∧ u2))) (ob1 (⟨⟨⟨fun h => h, fun h => h⟩, g1⟩, fun h => h⟩)) <|
 .callG (decide (j2 < (p0.length : Int))) (F_r33_less (p0.getD (Int.toNat j2) default) p1 p2) (false) [] (let u2 := (decide (j2 < (p0.length : Int))); let u1 := (u2 = true → u2 = true); some ((u1 ∧ (u1 ∧ u1)))) (ob1 (⟨fun h => h, ⟨fun h => h, fun h => h⟩⟩)) (fun r h => (c_r33_less h)) fun r2 =>
 .rp 0 1 100 [0, 1, 2, 8, 21] [] (some (((decide (j2 < (p0.length : Int))) = true → (decide (j2 < (p0.length : Int))) = true))) (ob1 (fun h => h)) <|
 .cond 2 (
 .r 4 3 100 [0, 1, 2, 8] [] <|
 .lf 1 [0, 1, 2, 8] [] (.inl (IntKind.wrap .i64 (j2 + 1)))
 ) (
 .lf 1 [0, 1, 2, 8] [] (.inr (.inl j2))
 )
 ) fun j1 =>
 .s (.cn [0, 1, 2, 8] []) <|
 .gd ((decide (j1 < (p0.length : Int))) = true → (0 : Int) ≤ j1 ∧ j1 < (p0.length : Int)) fun g3 =>
 .gd ((cond (decide (j1 < (p0.length : Int))) (((p0.getD (Int.toNat j1) default).ID) == p1) false) = true → (0 : Int) ≤ j1 ∧ j1 < (p0.length : Int)) fun g4 =>
 .m 1 <|
 .s (.dr [] (let u4 := (decide (j1 < (p0.length : Int))); let u1 := (cond u4 (((p0.getD (Int.toNat j1) default).ID) == p1) false); let u2 := (u4 = true → u4 = true); let u3 := (u1 = true → u1 = true); [(8, some (((u2 ∧ u2) ∧ (u4 = true → (0 : Int) ≤ j1 ∧ j1 < (p0.length : Int))))), (9, some (u2)), (10, some (u2)), (12, some ((u2 ∧ u2))), (13, some (u2)), (17, some (((u3 ∧ u3) ∧ (u1 = true → (0 : Int) ≤ j1 ∧ j1 < (p0.length : Int))))), (18, some (u3)), (19, some (u3)), (21, some ((u3 ∧ u3))), (22, some (u3))]) (obsAll.cons (ob1 (⟨⟨fun h => h, fun h => h⟩, g3⟩)) (obsAll.cons (ob1 (fun h => h)) (obsAll.cons (ob1 (fun h => h)) (obsAll.cons (ob1 (⟨fun h => h, fun h => h⟩)) (obsAll.cons (ob1 (fun h => h)) (obsAll.cons (ob1 (⟨⟨fun h => h, fun h => h⟩, g4⟩)) (obsAll.cons (ob1 (fun h => h)) (obsAll.cons (ob1 (fun h => h)) (obsAll.cons (ob1 (⟨fun h => h, fun h => h⟩)) (obsAll.cons (ob1 (fun h => h)) obsAll.nil)))))))))) [6, 7] []) <|
 .bs ((cond (cond (decide (j1 < (p0.length : Int))) (((p0.getD (Int.toNat j1) default).ID) == p1) false) (((p0.getD (Int.toNat j1) default).Tier) == p2) false)) [7] xb fun x5 =>
 .lf 3 [6, 7] [] (j1, x5)
/-- logtide/logtideref33.at -/
theorem c_r33_at {p0 : List S_Blob} {p1 : Int} {p2 : Int} {r : Int × Bool} (h : F_r33_at p0 p1 p2 = some r) : Spec Tryz.prog 52 [.c (.d (.ro 3 p0.length (gT fS_Blob p0))), xi p1, xi p2] [] (.tup [xi r.1, xb r.2]) [] :=
  Cert.spec [] (fun r : Int × Bool => .tup [xi r.1, xb r.2]) (fun r => []) (z_r33_at p0 p1 p2) Tryz.func52 rfl (by kernel_rfl) h
noncomputable def F_r33_Put (p0 : List S_Blob) (p1 : S_Blob) : Option (List S_Blob) :=
 bnd (F_r33_at p0 p1.ID p1.Tier) fun r1 =>
 gd ((([] : List Int).length + p1.Data.length) * 1 ≤ 140737488355328) (
 gd ((0 : Int) ≤ (0 : Int) ∧ (0 : Int) ≤ (r1.1 : Int) ∧ (r1.1 : Int) ≤ (p0.length : Int)) (
 gd ((([] : List S_Blob).length + (sub p0 0 r1.1).length) * 40 ≤ 140737488355328) (
 gd (((([] : List S_Blob) ++ (sub p0 0 r1.1)).length + 1) * 40 ≤ 140737488355328) (
 bd ((([] : List S_Blob) ++ (sub p0 0 r1.1)) ++ [{ { p1 with Data := [] } with Data := (([] : List Int) ++ p1.Data) }]) fun x6 =>
 bindE (σ := (Int)) (
 cond r1.2 (
 some (.inl (IntKind.wrap .i64 (r1.1 + 1)))) (
 some (.inl r1.1))) fun j1 =>
 gd ((0 : Int) ≤ (j1 : Int) ∧ (j1 : Int) ≤ ((p0.length : Int) : Int) ∧ ((p0.length : Int) : Int) ≤ (p0.length : Int)) (
 gd ((x6.length + (sub p0 j1 (p0.length : Int)).length) * 40 ≤ 140737488355328) (
 some (x6 ++ (sub p0 j1 (p0.length : Int)))))))))
noncomputable def z_r33_Put (p0 : List S_Blob) (p1 : S_Blob) : Cert Tryz.prog 37 (List S_Blob) :=
 .r 2 2 100 [0, 3] [100] <|
 .r 4 5 101 [0, 3, 9, 11, 13] [100] <|
 .bind (F_r33_at p0 p1.ID p1.Tier) fun r1 hr1 =>
 .s (.call [] [] (c_r33_at hr1)) <|
 .r 0 5 101 [0, 3, 5, 6] [100] <|
 .r 4 2 101 [0, 3, 5, 6, 18] [100] <|
 .gd ((([] : List Int).length + p1.Data.length) * 1 ≤ 140737488355328) fun g2 =>
 .s (.appL (fInt .u8) (([] : List Int)) (p1.Data) (fun _ _ => .v undef) (.inl rfl) 5 1 1 101 g2) <|
 .r 0 2 102 [0, 3, 5, 6] [100, 101] <|
 .gd ((0 : Int) ≤ (0 : Int) ∧ (0 : Int) ≤ (r1.1 : Int) ∧ (r1.1 : Int) ≤ (p0.length : Int)) fun g3 =>
 .rp 4 3 102 [0, 3, 5, 6, 23] [100, 101] (some (((0 : Int) ≤ (0 : Int) ∧ (0 : Int) ≤ (r1.1 : Int) ∧ (r1.1 : Int) ≤ (p0.length : Int)))) (ob1 g3) <|
 .s (.imp 23 (.c (.d (.ro 3 (sub p0 0 r1.1).length (gT fS_Blob (sub p0 0 r1.1))))) (AImp.c (CImp.sub g3))) <|
 .r 0 0 102 [0, 3, 5, 6, 23] [100, 101] <|
 .gd ((([] : List S_Blob).length + (sub p0 0 r1.1).length) * 40 ≤ 140737488355328) fun g4 =>
 .s (.appL fS_Blob (([] : List S_Blob)) ((sub p0 0 r1.1)) (fun _ _ => .v undef) (.inl rfl) 59 3 40 102 g4) <|
 .r 0 1 103 [0, 3, 5, 6, 7] [100, 101, 102] <|
 .r 4 2 103 [0, 5, 6, 25, 26] [101, 102] <|
 .s (.fz 101) <|
 .r 0 1 103 [0, 5, 6, 25, 27] [102] <|
 .gd (((([] : List S_Blob) ++ (sub p0 0 r1.1)).length + 1) * 40 ≤ 140737488355328) fun g5 =>
 .s (.app1 fS_Blob ((([] : List S_Blob) ++ (sub p0 0 r1.1))) ({ { p1 with Data := [] } with Data := (([] : List Int) ++ p1.Data) }) (gT fS_Blob (([] : List S_Blob) ++ (sub p0 0 r1.1))) (.inr rfl) 59 3 40 103 g5) <|
 .r 0 1 104 [0, 5, 6, 7] [103] <|
 .bh (((([] : List S_Blob) ++ (sub p0 0 r1.1)) ++ [{ { p1 with Data := [] } with Data := (([] : List Int) ++ p1.Data) }])) 103 (fun x6 => .rows 59 3 x6.length (gT fS_Blob x6)) fun x6 =>
 .sq 2 (fun j1 : (Int) => ⟨[(0, .c (.d (.ro 3 p0.length (gT fS_Blob p0)))), (5, xi j1), (7, .c (.nm 103))], [(103, .rows 59 3 x6.length (gT fS_Blob x6))]⟩) (
 .r 2 1 104 [0, 5, 7, 29] [103] <|
 .cond 2 (
 .r 1 3 104 [0, 5, 7] [103] <|
 .lf 1 [0, 5, 7] [103] (.inl (IntKind.wrap .i64 (r1.1 + 1)))
 ) (
 .lf 1 [0, 5, 7] [103] (.inl r1.1)
 )
 ) fun j1 =>
 .gd ((0 : Int) ≤ (j1 : Int) ∧ (j1 : Int) ≤ ((p0.length : Int) : Int) ∧ ((p0.length : Int) : Int) ≤ (p0.length : Int)) fun g7 =>
 .rp 2 4 104 [32, 35] [103] (some (((0 : Int) ≤ (j1 : Int) ∧ (j1 : Int) ≤ ((p0.length : Int) : Int) ∧ ((p0.length : Int) : Int) ≤ (p0.length : Int)))) (ob1 g7) <|
 .s (.imp 35 (.c (.d (.ro 3 (sub p0 j1 (p0.length : Int)).length (gT fS_Blob (sub p0 j1 (p0.length : Int)))))) (AImp.c (CImp.sub g7))) <|
 .r 0 0 104 [32, 35] [103] <|
 .gd ((x6.length + (sub p0 j1 (p0.length : Int)).length) * 40 ≤ 140737488355328) fun g8 =>
 .s (.appL fS_Blob (x6) ((sub p0 j1 (p0.length : Int))) (gT fS_Blob x6) (.inr rfl) 59 3 40 104 g8) <|
 .r 0 1 105 [4] [104] <|
 .s (.rn 104 900) <|
 .lf 3 [4] [900] (x6 ++ (sub p0 j1 (p0.length : Int)))
/-- logtide/logtideref33.Put -/
theorem c_r33_Put {p0 : List S_Blob} {p1 : S_Blob} {r : List S_Blob} (h : F_r33_Put p0 p1 = some r) : Spec Tryz.prog 26 [.c (.d (.ro 3 p0.length (gT fS_Blob p0))), .agg (bS_Blob p1)] [] (.c (.nm 900)) [(900, .rows 59 3 r.length (gT fS_Blob r))] :=
  Cert.spec [900] (fun r : List S_Blob => .c (.nm 900)) (fun r => [(900, .rows 59 3 r.length (gT fS_Blob r))]) (z_r33_Put p0 p1) Tryz.func26 rfl (by kernel_rfl) h
end Go.Abs
