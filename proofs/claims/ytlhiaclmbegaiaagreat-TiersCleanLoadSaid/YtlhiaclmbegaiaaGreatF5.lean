/- DERIVED. Printed by gen.py of this repo. -/
import Derived.Test.YtlhiaclmbegaiaaGreatF4
set_option linter.unusedVariables false
set_option linter.unusedSimpArgs false
set_option maxRecDepth 100000
namespace Go.Abs
open Go.Proofs
noncomputable def L_r27_values_2 (p0 : List S_Event) (p1 : ByteArray) (j2 : Int × List Int × List ByteArray) : Option ((Int × List Int × List ByteArray) ⊕ ((List Int × List ByteArray) ⊕ (List Int × List ByteArray))) :=
 cond (decide (j2.1 < (p0.length : Int))) (
 bindE (σ := (List Int × List ByteArray)) (
 gd ((0 : Int) ≤ j2.1 ∧ j2.1 < (p0.length : Int)) (
 bnd (F_r11_Get ((p0.getD (Int.toNat j2.1) default).Fields) p1) fun r2 =>
 cond r2.2 (
 gd ((j2.2.1.length + ([j2.1] : List Int).length) * 8 ≤ 140737488355328) (
 gd ((j2.2.2.length + ([r2.1] : List ByteArray).length) * 16 ≤ 140737488355328) (
 some (.inl ((j2.2.1 ++ ([j2.1] : List Int)), (j2.2.2 ++ ([r2.1] : List ByteArray))))))) (
 some (.inl (j2.2.1, j2.2.2))))) fun j3 =>
 some (.inl ((IntKind.wrap .i64 (j2.1 + 1)), j3.1, j3.2))) (
 some (.inr (.inl (j2.2.1, j2.2.2))))
noncomputable def F_r27_values (p0 : List S_Event) (p1 : ByteArray) : Option (List Int × List ByteArray) :=
 bindE (σ := (List Int × List ByteArray)) (
 loop (L_r27_values_2 p0 p1) (0, ([] : List Int), ([] : List ByteArray))) fun j1 =>
 some (j1.1, j1.2)
noncomputable def z_r27_values (p0 : List S_Event) (p1 : ByteArray) : Cert Tryz.prog 38 (List Int × List ByteArray) :=
 .r 2 2 100 [0, 1] [] <|
 .r 4 1 100 [0, 1, 6] [] <|
 .r 4 1 100 [0, 1, 6, 7] [] <|
 .sq 2 (fun j1 : (List Int × List ByteArray) => ⟨[(6, .c (.nm 100)), (7, .c (.nm 101))], [(100, .rows 3 1 j1.1.length (gT (fInt .i64) j1.1)), (101, .rows 9 1 j1.2.length (gT fStr j1.2))]⟩) (
 .r 2 1 100 [0, 1, 6, 7, 8] [] <|
 .s (.own 6 100 3 1 (gT (fInt .i64) [])) <|
 .s (.own 7 101 9 1 (gT fStr [])) <|
 .s (.cn [0, 1, 6, 7, 8] [100, 101]) <|
 .lp 3 (fun j2 : (Int × List Int × List ByteArray) => ⟨[(0, .c (.d (.ro 10 p0.length (gT fS_Event p0)))), (1, xs p1), (6, .c (.nm 100)), (7, .c (.nm 101)), (8, xi j2.1)], [(100, .rows 3 1 j2.2.1.length (gT (fInt .i64) j2.2.1)), (101, .rows 9 1 j2.2.2.length (gT fStr j2.2.2))]⟩) (0, ([] : List Int), ([] : List ByteArray)) fun j2 =>
 .r 3 4 102 [0, 1, 6, 7, 8, 14] [100, 101] <|
 .cond 2 (
 .sq 2 (fun j3 : (List Int × List ByteArray) => ⟨[(0, .c (.d (.ro 10 p0.length (gT fS_Event p0)))), (1, xs p1), (6, .c (.nm 102)), (7, .c (.nm 103)), (8, xi j2.1)], [(102, .rows 3 1 j3.1.length (gT (fInt .i64) j3.1)), (103, .rows 9 1 j3.2.length (gT fStr j3.2))]⟩) (
 .gd ((0 : Int) ≤ j2.1 ∧ j2.1 < (p0.length : Int)) fun g1 =>
 .rp 3 6 102 [0, 1, 6, 7, 8, 22, 23] [100, 101] (some (((0 : Int) ≤ j2.1 ∧ j2.1 < (p0.length : Int)))) (ob1 g1) <|
 .bind (F_r11_Get ((p0.getD (Int.toNat j2.1) default).Fields) p1) fun r2 hr2 =>
 .s (.call [] [] (c_r11_Get hr2)) <|
 .r 0 5 102 [0, 1, 6, 7, 8, 9, 10] [100, 101] <|
 .r 4 1 102 [0, 1, 6, 7, 8, 9, 27] [100, 101] <|
 .cond 2 (
 .r 1 3 102 [0, 1, 7, 8, 9, 28, 30] [100, 101] <|
 .gd ((j2.2.1.length + ([j2.1] : List Int).length) * 8 ≤ 140737488355328) fun g3 =>
 .s (.appL (fInt .i64) (j2.2.1) (([j2.1] : List Int)) (gT (fInt .i64) j2.2.1) (.inr rfl) 3 1 8 102 g3) <|
 .r 0 3 103 [0, 1, 8, 31, 32, 34] [101, 102] <|
 .gd ((j2.2.2.length + ([r2.1] : List ByteArray).length) * 16 ≤ 140737488355328) fun g4 =>
 .s (.appL fStr (j2.2.2) (([r2.1] : List ByteArray)) (gT fStr j2.2.2) (.inr rfl) 9 1 16 103 g4) <|
 .r 0 2 104 [0, 1, 6, 7, 8] [102, 103] <|
 .lf 1 [0, 1, 6, 7, 8] [102, 103] (.inl ((j2.2.1 ++ ([j2.1] : List Int)), (j2.2.2 ++ ([r2.1] : List ByteArray))))
 ) (
 .s (.cn [0, 1, 6, 7, 8] [100, 101]) <|
 .s (.rn 100 102) <|
 .s (.rn 101 103) <|
 .lf 1 [0, 1, 6, 7, 8] [102, 103] (.inl (j2.2.1, j2.2.2))
 )
 ) fun j3 =>
 .r 1 3 104 [0, 1, 6, 7, 8] [102, 103] <|
 .s (.cn [0, 1, 6, 7, 8] [102, 103]) <|
 .s (.rn 102 100) <|
 .s (.rn 103 101) <|
 .lf 1 [0, 1, 6, 7, 8] [100, 101] (.inl ((IntKind.wrap .i64 (j2.1 + 1)), j3.1, j3.2))
 ) (
 .lf 1 [6, 7] [100, 101] (.inr (.inl (j2.2.1, j2.2.2)))
 )
 ) fun j1 =>
 .r 2 4 104 [4, 5] [100, 101] <|
 .s (.rn 100 900) <|
 .s (.rn 101 901) <|
 .lf 3 [4, 5] [900, 901] (j1.1, j1.2)
/-- logtide/logtideref27.values -/
theorem c_r27_values {p0 : List S_Event} {p1 : ByteArray} {r : List Int × List ByteArray} (h : F_r27_values p0 p1 = some r) : Spec Tryz.prog 105 [.c (.d (.ro 10 p0.length (gT fS_Event p0))), xs p1] [] (.tup [.c (.nm 900), .c (.nm 901)]) [(900, .rows 3 1 r.1.length (gT (fInt .i64) r.1)), (901, .rows 9 1 r.2.length (gT fStr r.2))] :=
  Cert.spec [900, 901] (fun r : List Int × List ByteArray => .tup [.c (.nm 900), .c (.nm 901)]) (fun r => [(900, .rows 3 1 r.1.length (gT (fInt .i64) r.1)), (901, .rows 9 1 r.2.length (gT fStr r.2))]) (z_r27_values p0 p1) Tryz.func105 rfl (by kernel_rfl) h
noncomputable def L_r25_Check_2 (p0 : List Int) (j2 : Int) : Option ((Int) ⊕ ((Unit) ⊕ (Int))) :=
 cond (decide (j2 < (p0.length : Int))) (
 gd ((0 : Int) ≤ j2 ∧ j2 < (p0.length : Int)) (
 gd ((!(decide ((p0.getD (Int.toNat j2) default) < 0))) = true → (0 : Int) ≤ j2 ∧ j2 < (p0.length : Int)) (
 bd (cond (decide ((p0.getD (Int.toNat j2) default) < 0)) true (decide ((p0.getD (Int.toNat j2) default) ≥ 4096))) fun x3 =>
 cond x3 (
 some (.inr (.inr (2)))) (
 some (.inl (IntKind.wrap .i64 (j2 + 1))))))) (
 some (.inr (.inl ())))
noncomputable def L_r25_Check_4 (p0 : List Int) (j4 : Int) : Option ((Int) ⊕ ((Unit) ⊕ (Int))) :=
 cond (decide (j4 < (p0.length : Int))) (
 gd ((0 : Int) ≤ j4 ∧ j4 < (p0.length : Int)) (
 gd ((0 : Int) ≤ (IntKind.wrap .i64 (j4 - 1)) ∧ (IntKind.wrap .i64 (j4 - 1)) < (p0.length : Int)) (
 bd (decide ((p0.getD (Int.toNat j4) default) ≤ (p0.getD (Int.toNat (IntKind.wrap .i64 (j4 - 1))) default))) fun x6 =>
 cond x6 (
 some (.inr (.inr (19)))) (
 some (.inl (IntKind.wrap .i64 (j4 + 1))))))) (
 some (.inr (.inl ())))
noncomputable def F_r25_Check (p0 : List Int) : Option (Int) :=
 cond (decide ((p0.length : Int) > 4096)) (
 some 4) (
 bindE (σ := (Unit)) (
 loop (L_r25_Check_2 p0) 0) fun j1 =>
 bindE (σ := (Unit)) (
 loop (L_r25_Check_4 p0) 1) fun j3 =>
 some 0)
noncomputable def z_r25_Check (p0 : List Int) : Cert Tryz.prog 42 (Int) :=
 .r 2 1 100 [0] [] <|
 .r 5 3 100 [0, 7] [] <|
 .cond 2 (
 .r 2 1 100 [2] [] <|
 .lf 3 [2] [] 4
 ) (
 .sq 2 (fun j1 : (Unit) => ⟨[(0, .c (.d (.ro 1 p0.length (gT (fInt .i64) p0))))], []⟩) (
 .r 2 1 100 [0, 3] [] <|
 .s (.cn [0, 3] []) <|
 .lp 3 (fun j2 : (Int) => ⟨[(0, .c (.d (.ro 1 p0.length (gT (fInt .i64) p0)))), (3, xi j2)], []⟩) 0 fun j2 =>
 .r 3 4 100 [0, 3, 11] [] <|
 .cond 2 (
 .gd ((0 : Int) ≤ j2 ∧ j2 < (p0.length : Int)) fun g1 =>
 .gd ((!(decide ((p0.getD (Int.toNat j2) default) < 0))) = true → (0 : Int) ≤ j2 ∧ j2 < (p0.length : Int)) fun g2 =>
 .rp 6 12 100 [0, 3, 25] [] (let u1 := (decide ((p0.getD (Int.toNat j2) default) < 0)); let u2 := ((!u1) = true → (!u1) = true); some ((((0 : Int) ≤ j2 ∧ j2 < (p0.length : Int)) ∧ (((u2 ∧ u2) ∧ ((!u1) = true → (0 : Int) ≤ j2 ∧ j2 < (p0.length : Int))) ∧ (u2 ∧ (u2 ∧ (u1 = false → (!u1) = true))))))) (ob1 (⟨g1, ⟨⟨⟨fun h => h, fun h => h⟩, g2⟩, ⟨fun h => h, ⟨fun h => h, (fun h => by rw [h]; rfl)⟩⟩⟩⟩)) <|
 .bs ((cond (decide ((p0.getD (Int.toNat j2) default) < 0)) true (decide ((p0.getD (Int.toNat j2) default) ≥ 4096)))) [25] xb fun x3 =>
 .cond 2 (
 .r 2 1 100 [2] [] <|
 .lf 3 [2] [] (.inr (.inr (2)))
 ) (
 .r 4 3 100 [0, 3] [] <|
 .lf 1 [0, 3] [] (.inl (IntKind.wrap .i64 (j2 + 1)))
 )
 ) (
 .lf 1 [0] [] (.inr (.inl ()))
 )
 ) fun j1 =>
 .sq 0 (fun j3 : (Unit) => ⟨[], []⟩) (
 .r 2 1 100 [0, 4] [] <|
 .s (.cn [0, 4] []) <|
 .lp 3 (fun j4 : (Int) => ⟨[(0, .c (.d (.ro 1 p0.length (gT (fInt .i64) p0)))), (4, xi j4)], []⟩) 1 fun j4 =>
 .r 3 4 100 [0, 4, 29] [] <|
 .cond 2 (
 .s (.cn [0, 4] []) <|
 .gd ((0 : Int) ≤ j4 ∧ j4 < (p0.length : Int)) fun g4 =>
 .gd ((0 : Int) ≤ (IntKind.wrap .i64 (j4 - 1)) ∧ (IntKind.wrap .i64 (j4 - 1)) < (p0.length : Int)) fun g5 =>
 .m 5 <|
 .s (.dr [] ([(2, some (((0 : Int) ≤ j4 ∧ j4 < (p0.length : Int)))), (7, some (((0 : Int) ≤ (IntKind.wrap .i64 (j4 - 1)) ∧ (IntKind.wrap .i64 (j4 - 1)) < (p0.length : Int))))]) (obsAll.cons (ob1 g4) (obsAll.cons (ob1 g5) obsAll.nil)) [0, 4, 41] []) <|
 .bs ((decide ((p0.getD (Int.toNat j4) default) ≤ (p0.getD (Int.toNat (IntKind.wrap .i64 (j4 - 1))) default)))) [41] xb fun x6 =>
 .cond 2 (
 .r 2 1 100 [2] [] <|
 .lf 3 [2] [] (.inr (.inr (19)))
 ) (
 .r 4 3 100 [0, 4] [] <|
 .lf 1 [0, 4] [] (.inl (IntKind.wrap .i64 (j4 + 1)))
 )
 ) (
 .lf 1 [] [] (.inr (.inl ()))
 )
 ) fun j3 =>
 .r 2 1 100 [2] [] <|
 .lf 3 [2] [] 0
 )
/-- logtide/logtideref25.Check -/
theorem c_r25_Check {p0 : List Int} {r : Int} (h : F_r25_Check p0 = some r) : Spec Tryz.prog 131 [.c (.d (.ro 1 p0.length (gT (fInt .i64) p0)))] [] (xi r) [] :=
  Cert.spec [] (fun r : Int => xi r) (fun r => []) (z_r25_Check p0) Tryz.func131 rfl (by kernel_rfl) h
noncomputable def L_r25_Encode_4 (x4 : List Int) (j4 : Int × List Int) : Option ((Int × List Int) ⊕ ((List Int) ⊕ ((Int × List Int × List Int) ⊕ ((List Int × List Int) ⊕ (List Int × Int))))) :=
 cond (decide (j4.1 < (x4.length : Int))) (
 gd ((0 : Int) ≤ j4.1 ∧ j4.1 < (x4.length : Int)) (
 bindE (σ := (Int)) (
 cond (decide (j4.1 > 0)) (
 gd ((0 : Int) ≤ (IntKind.wrap .i64 (j4.1 - 1)) ∧ (IntKind.wrap .i64 (j4.1 - 1)) < (x4.length : Int)) (
 bd (IntKind.wrap .i64 ((x4.getD (Int.toNat j4.1) default) - (x4.getD (Int.toNat (IntKind.wrap .i64 (j4.1 - 1))) default))) fun x7 =>
 some (.inl x7))) (
 some (.inl (x4.getD (Int.toNat j4.1) default)))) fun j5 =>
 bnd (F_r23_PutVarint j4.2 (IntKind.wrap .u64 (j5))) fun r8 =>
 some (.inl ((IntKind.wrap .i64 (j4.1 + 1)), r8)))) (
 some (.inr (.inl j4.2)))
noncomputable def L_r25_Encode_2 (p0 : List Int) (j2 : Int × List Int × List Int) : Option ((Int × List Int × List Int) ⊕ ((List Int × List Int) ⊕ (List Int × Int))) :=
 cond (decide (j2.1 < (p0.length : Int))) (
 gd ((0 : Int) ≤ (j2.1 : Int) ∧ (j2.1 : Int) ≤ ((if (IntKind.wrap .i64 (j2.1 + 32)) < (p0.length : Int) then (IntKind.wrap .i64 (j2.1 + 32)) else (p0.length : Int)) : Int) ∧ ((if (IntKind.wrap .i64 (j2.1 + 32)) < (p0.length : Int) then (IntKind.wrap .i64 (j2.1 + 32)) else (p0.length : Int)) : Int) ≤ (p0.length : Int)) (
 bd (sub p0 j2.1 (if (IntKind.wrap .i64 (j2.1 + 32)) < (p0.length : Int) then (IntKind.wrap .i64 (j2.1 + 32)) else (p0.length : Int))) fun x4 =>
 bindE (σ := (List Int)) (
 loop (L_r25_Encode_4 x4) (0, ([] : List Int))) fun j3 =>
 gd ((0 : Int) ≤ (IntKind.wrap .i64 ((x4.length : Int) - 1)) ∧ (IntKind.wrap .i64 ((x4.length : Int) - 1)) < (x4.length : Int)) (
 bnd (F_r23_PutVarint j2.2.1 (IntKind.wrap .u64 ((x4.getD (Int.toNat (IntKind.wrap .i64 ((x4.length : Int) - 1))) default)))) fun r10 =>
 bnd (F_r23_PutVarint r10 (IntKind.wrap .u64 ((j3.length : Int)))) fun r11 =>
 gd ((j2.2.2.length + j3.length) * 1 ≤ 140737488355328) (
 some (.inl ((IntKind.wrap .i64 (j2.1 + 32)), r11, (j2.2.2 ++ j3))))))) (
 some (.inr (.inl (j2.2.1, j2.2.2))))
noncomputable def F_r25_Encode (p0 : List Int) : Option (List Int × Int) :=
 bnd (F_r25_Check p0) fun r1 =>
 cond (r1 != 0) (
 some (([] : List Int), r1)) (
 bnd (F_r23_PutVarint [] (IntKind.wrap .u64 ((p0.length : Int)))) fun r2 =>
 bindE (σ := (List Int × List Int)) (
 loop (L_r25_Encode_2 p0) (0, r2, ([] : List Int))) fun j1 =>
 gd ((j1.1.length + j1.2.length) * 1 ≤ 140737488355328) (
 some ((j1.1 ++ j1.2), 0)))
noncomputable def z_r25_Encode (p0 : List Int) : Cert Tryz.prog 77 (List Int × Int) :=
 .r 2 2 100 [0] [] <|
 .r 5 1 100 [0, 12] [] <|
 .bind (F_r25_Check p0) fun r1 hr1 =>
 .s (.call [] [] (c_r25_Check hr1)) <|
 .r 0 1 100 [0, 4] [] <|
 .r 4 2 100 [0, 4, 15] [] <|
 .cond 2 (
 .r 2 3 100 [2, 3] [] <|
 .s (.own 2 100 5 1 (gT (fInt .u8) [])) <|
 .s (.rn 100 900) <|
 .lf 3 [2, 3] [900] (([] : List Int), r1)
 ) (
 .r 4 3 101 [0, 19] [] <|
 .bind (F_r23_PutVarint [] (IntKind.wrap .u64 ((p0.length : Int)))) fun r2 hr2 =>
 .s (.call [] [(900, 101)] ((c_r23_PutVarint hr2).nilArg 1 _ _ rfl rfl (by kernel_rfl))) <|
 .r 0 1 102 [0, 5] [101] <|
 .r 4 1 102 [0, 5, 6] [101] <|
 .sq 2 (fun j1 : (List Int × List Int) => ⟨[(5, .c (.nm 101)), (6, .c (.nm 102))], [(101, .rows 5 1 j1.1.length (gT (fInt .u8) j1.1)), (102, .rows 5 1 j1.2.length (gT (fInt .u8) j1.2))]⟩) (
 .r 2 1 102 [0, 5, 6, 7] [101] <|
 .s (.own 6 102 5 1 (gT (fInt .u8) [])) <|
 .s (.cn [0, 5, 6, 7] [101, 102]) <|
 .lp 3 (fun j2 : (Int × List Int × List Int) => ⟨[(0, .c (.d (.ro 1 p0.length (gT (fInt .i64) p0)))), (5, .c (.nm 101)), (6, .c (.nm 102)), (7, xi j2.1)], [(101, .rows 5 1 j2.2.1.length (gT (fInt .u8) j2.2.1)), (102, .rows 5 1 j2.2.2.length (gT (fInt .u8) j2.2.2))]⟩) (0, r2, ([] : List Int)) fun j2 =>
 .r 3 4 103 [0, 5, 6, 7, 24] [101, 102] <|
 .cond 2 (
 .gd ((0 : Int) ≤ (j2.1 : Int) ∧ (j2.1 : Int) ≤ ((if (IntKind.wrap .i64 (j2.1 + 32)) < (p0.length : Int) then (IntKind.wrap .i64 (j2.1 + 32)) else (p0.length : Int)) : Int) ∧ ((if (IntKind.wrap .i64 (j2.1 + 32)) < (p0.length : Int) then (IntKind.wrap .i64 (j2.1 + 32)) else (p0.length : Int)) : Int) ≤ (p0.length : Int)) fun g3 =>
 .rp 6 8 103 [0, 5, 6, 7, 34] [101, 102] (let u1 := ((if (IntKind.wrap .i64 (j2.1 + 32)) < (p0.length : Int) then (IntKind.wrap .i64 (j2.1 + 32)) else (p0.length : Int)) : Int); some (((0 : Int) ≤ (j2.1 : Int) ∧ (j2.1 : Int) ≤ u1 ∧ u1 ≤ (p0.length : Int)))) (ob1 g3) <|
 .s (.imp 34 (.c (.d (.ro 1 (sub p0 j2.1 (if (IntKind.wrap .i64 (j2.1 + 32)) < (p0.length : Int) then (IntKind.wrap .i64 (j2.1 + 32)) else (p0.length : Int))).length (gT (fInt .i64) (sub p0 j2.1 (if (IntKind.wrap .i64 (j2.1 + 32)) < (p0.length : Int) then (IntKind.wrap .i64 (j2.1 + 32)) else (p0.length : Int))))))) (AImp.c (CImp.sub g3))) <|
 .r 0 1 103 [0, 5, 6, 7, 8] [101, 102] <|
 .bs ((sub p0 j2.1 (if (IntKind.wrap .i64 (j2.1 + 32)) < (p0.length : Int) then (IntKind.wrap .i64 (j2.1 + 32)) else (p0.length : Int)))) [8] (fun x4 => .c (.d (.ro 1 x4.length (gT (fInt .i64) x4)))) fun x4 =>
 .r 4 1 103 [0, 5, 6, 7, 8, 9] [101, 102] <|
 .sq 2 (fun j3 : (List Int) => ⟨[(0, .c (.d (.ro 1 p0.length (gT (fInt .i64) p0)))), (5, .c (.nm 101)), (6, .c (.nm 102)), (7, xi j2.1), (8, .c (.d (.ro 1 x4.length (gT (fInt .i64) x4)))), (9, .c (.nm 103))], [(101, .rows 5 1 j2.2.1.length (gT (fInt .u8) j2.2.1)), (102, .rows 5 1 j2.2.2.length (gT (fInt .u8) j2.2.2)), (103, .rows 5 1 j3.length (gT (fInt .u8) j3))]⟩) (
 .r 2 1 103 [0, 5, 6, 7, 8, 9, 10] [101, 102] <|
 .s (.own 9 103 5 1 (gT (fInt .u8) [])) <|
 .s (.cn [0, 5, 6, 7, 8, 9, 10] [101, 102, 103]) <|
 .lp 3 (fun j4 : (Int × List Int) => ⟨[(0, .c (.d (.ro 1 p0.length (gT (fInt .i64) p0)))), (5, .c (.nm 101)), (6, .c (.nm 102)), (7, xi j2.1), (8, .c (.d (.ro 1 x4.length (gT (fInt .i64) x4)))), (9, .c (.nm 103)), (10, xi j4.1)], [(101, .rows 5 1 j2.2.1.length (gT (fInt .u8) j2.2.1)), (102, .rows 5 1 j2.2.2.length (gT (fInt .u8) j2.2.2)), (103, .rows 5 1 j4.2.length (gT (fInt .u8) j4.2))]⟩) (0, ([] : List Int)) fun j4 =>
 .r 3 4 104 [0, 5, 6, 7, 8, 9, 10, 38] [101, 102, 103] <|
 .cond 2 (
 .gd ((0 : Int) ≤ j4.1 ∧ j4.1 < (x4.length : Int)) fun g5 =>
 .rp 6 5 104 [0, 5, 6, 7, 8, 9, 10, 11] [101, 102, 103] (some (((0 : Int) ≤ j4.1 ∧ j4.1 < (x4.length : Int)))) (ob1 g5) <|
 .sq 2 (fun j5 : (Int) => ⟨[(0, .c (.d (.ro 1 p0.length (gT (fInt .i64) p0)))), (5, .c (.nm 101)), (6, .c (.nm 102)), (7, xi j2.1), (8, .c (.d (.ro 1 x4.length (gT (fInt .i64) x4)))), (9, .c (.nm 103)), (10, xi j4.1), (11, xi j5)], [(101, .rows 5 1 j2.2.1.length (gT (fInt .u8) j2.2.1)), (102, .rows 5 1 j2.2.2.length (gT (fInt .u8) j2.2.2)), (103, .rows 5 1 j4.2.length (gT (fInt .u8) j4.2))]⟩) (
 .r 2 2 104 [0, 5, 6, 7, 8, 9, 10, 11, 46] [101, 102, 103] <|
 .cond 2 (
 .gd ((0 : Int) ≤ (IntKind.wrap .i64 (j4.1 - 1)) ∧ (IntKind.wrap .i64 (j4.1 - 1)) < (x4.length : Int)) fun g6 =>
 .rp 1 8 104 [0, 5, 6, 7, 8, 9, 10, 11] [101, 102, 103] (some (((0 : Int) ≤ (IntKind.wrap .i64 (j4.1 - 1)) ∧ (IntKind.wrap .i64 (j4.1 - 1)) < (x4.length : Int)))) (ob1 g6) <|
 .bs ((IntKind.wrap .i64 ((x4.getD (Int.toNat j4.1) default) - (x4.getD (Int.toNat (IntKind.wrap .i64 (j4.1 - 1))) default)))) [11] xi fun x7 =>
 .lf 1 [0, 5, 6, 7, 8, 9, 10, 11] [101, 102, 103] (.inl x7)
 ) (
 .lf 1 [0, 5, 6, 7, 8, 9, 10, 11] [101, 102, 103] (.inl (x4.getD (Int.toNat j4.1) default))
 )
 ) fun j5 =>
 .r 1 3 104 [0, 5, 6, 7, 8, 10, 54, 56] [101, 102, 103] <|
 .bind (F_r23_PutVarint j4.2 (IntKind.wrap .u64 (j5))) fun r8 hr8 =>
 .s (.call [(1, 103)] [(900, 104)] (c_r23_PutVarint hr8)) <|
 .r 0 1 105 [0, 5, 6, 7, 8, 9, 10] [101, 102, 104] <|
 .r 4 3 105 [0, 5, 6, 7, 8, 9, 10] [101, 102, 104] <|
 .s (.cn [0, 5, 6, 7, 8, 9, 10] [101, 102, 104]) <|
 .s (.rn 104 103) <|
 .lf 1 [0, 5, 6, 7, 8, 9, 10] [101, 102, 103] (.inl ((IntKind.wrap .i64 (j4.1 + 1)), r8))
 ) (
 .lf 1 [0, 5, 6, 7, 8, 9] [101, 102, 103] (.inr (.inl j4.2))
 )
 ) fun j3 =>
 .gd ((0 : Int) ≤ (IntKind.wrap .i64 ((x4.length : Int) - 1)) ∧ (IntKind.wrap .i64 ((x4.length : Int) - 1)) < (x4.length : Int)) fun g9 =>
 .rp 2 8 105 [0, 6, 7, 9, 58, 65] [101, 102, 103] (some (((0 : Int) ≤ (IntKind.wrap .i64 ((x4.length : Int) - 1)) ∧ (IntKind.wrap .i64 ((x4.length : Int) - 1)) < (x4.length : Int)))) (ob1 g9) <|
 .bind (F_r23_PutVarint j2.2.1 (IntKind.wrap .u64 ((x4.getD (Int.toNat (IntKind.wrap .i64 ((x4.length : Int) - 1))) default)))) fun r10 hr10 =>
 .s (.call [(1, 101)] [(900, 105)] (c_r23_PutVarint hr10)) <|
 .r 0 3 106 [0, 6, 7, 9, 66, 69] [102, 103, 105] <|
 .bind (F_r23_PutVarint r10 (IntKind.wrap .u64 ((j3.length : Int)))) fun r11 hr11 =>
 .s (.call [(1, 105)] [(900, 106)] (c_r23_PutVarint hr11)) <|
 .r 0 1 107 [0, 5, 6, 7, 9] [102, 103, 106] <|
 .r 3 2 107 [0, 5, 7, 71, 72] [102, 103, 106] <|
 .gd ((j2.2.2.length + j3.length) * 1 ≤ 140737488355328) fun g12 =>
 .s (.appL (fInt .u8) (j2.2.2) (j3) (gT (fInt .u8) j2.2.2) (.inr rfl) 5 1 1 107 g12) <|
 .r 0 1 108 [0, 5, 6, 7] [106, 107] <|
 .r 4 3 108 [0, 5, 6, 7] [106, 107] <|
 .s (.cn [0, 5, 6, 7] [106, 107]) <|
 .s (.rn 106 101) <|
 .s (.rn 107 102) <|
 .lf 1 [0, 5, 6, 7] [101, 102] (.inl ((IntKind.wrap .i64 (j2.1 + 32)), r11, (j2.2.2 ++ j3)))
 ) (
 .lf 1 [5, 6] [101, 102] (.inr (.inl (j2.2.1, j2.2.2)))
 )
 ) fun j1 =>
 .r 2 2 108 [74, 75] [101, 102] <|
 .gd ((j1.1.length + j1.2.length) * 1 ≤ 140737488355328) fun g13 =>
 .s (.appL (fInt .u8) (j1.1) (j1.2) (gT (fInt .u8) j1.1) (.inr rfl) 5 1 1 108 g13) <|
 .r 0 2 109 [2, 3] [108] <|
 .s (.rn 108 900) <|
 .lf 3 [2, 3] [900] ((j1.1 ++ j1.2), 0)
 )
/-- logtide/logtideref25.Encode -/
theorem c_r25_Encode {p0 : List Int} {r : List Int × Int} (h : F_r25_Encode p0 = some r) : Spec Tryz.prog 121 [.c (.d (.ro 1 p0.length (gT (fInt .i64) p0)))] [] (.tup [.c (.nm 900), xi r.2]) [(900, .rows 5 1 r.1.length (gT (fInt .u8) r.1))] :=
  Cert.spec [900] (fun r : List Int × Int => .tup [.c (.nm 900), xi r.2]) (fun r => [(900, .rows 5 1 r.1.length (gT (fInt .u8) r.1))]) (z_r25_Encode p0) Tryz.func121 rfl (by kernel_rfl) h
noncomputable def F_r27_postings (p0 : List Int) : Option (List Int) :=
 bnd (F_r25_Encode p0) fun r1 =>
 some r1.1
noncomputable def z_r27_postings (p0 : List Int) : Cert Tryz.prog 11 (List Int) :=
 .r 2 1 100 [0] [] <|
 .r 4 1 100 [6] [] <|
 .bind (F_r25_Encode p0) fun r1 hr1 =>
 .s (.call [] [(900, 100)] (c_r25_Encode hr1)) <|
 .r 0 5 101 [3] [100] <|
 .r 4 2 101 [2] [100] <|
 .s (.rn 100 900) <|
 .lf 3 [2] [900] r1.1
/-- logtide/logtideref27.postings -/
theorem c_r27_postings {p0 : List Int} {r : List Int} (h : F_r27_postings p0 = some r) : Spec Tryz.prog 106 [.c (.d (.ro 1 p0.length (gT (fInt .i64) p0)))] [] (.c (.nm 900)) [(900, .rows 5 1 r.length (gT (fInt .u8) r))] :=
  Cert.spec [900] (fun r : List Int => .c (.nm 900)) (fun r => [(900, .rows 5 1 r.length (gT (fInt .u8) r))]) (z_r27_postings p0) Tryz.func106 rfl (by kernel_rfl) h
noncomputable def L_r27_fields_2 (r1 : List ByteArray) (p0 : List S_Event) (j2 : Int × List Int) : Option ((Int × List Int) ⊕ ((List Int) ⊕ (List Int))) :=
 cond (decide (j2.1 < (r1.length : Int))) (
 gd ((0 : Int) ≤ j2.1 ∧ j2.1 < (r1.length : Int)) (
 bnd (F_r27_values p0 (r1.getD (Int.toNat j2.1) default)) fun r5 =>
 bnd (F_r27_postings r5.1) fun r6 =>
 bnd (F_r27_PutBlock j2.2 r6) fun r7 =>
 bnd (F_r27_indexed r5.2) fun r8 =>
 gd ((r7.length + r8.length) * 1 ≤ 140737488355328) (
 some (.inl ((IntKind.wrap .i64 (j2.1 + 1)), (r7 ++ r8)))))) (
 some (.inr (.inl j2.2)))
noncomputable def F_r27_fields (p0 : List S_Event) : Option (List Int) :=
 bnd (F_r27_names p0) fun r1 =>
 bnd (F_r27_dictionary r1) fun r2 =>
 bnd (F_r27_PutBlock [] r2) fun r3 =>
 bindE (σ := (List Int)) (
 loop (L_r27_fields_2 r1 p0) (0, r3)) fun j1 =>
 some j1
noncomputable def z_r27_fields (p0 : List S_Event) : Cert Tryz.prog 36 (List Int) :=
 .r 2 1 100 [0] [] <|
 .r 4 1 100 [0, 8] [] <|
 .bind (F_r27_names p0) fun r1 hr1 =>
 .s (.call [] [(900, 100)] (c_r27_names hr1)) <|
 .r 0 1 101 [0, 3] [100] <|
 .r 4 1 101 [0, 3, 10] [100] <|
 .bind (F_r27_dictionary r1) fun r2 hr2 =>
 .s (.call [(60, 100)] [(900, 101)] (Spec.lend 60 9 1 r1.length (gT fStr r1) _ (c_r27_dictionary hr2) (args := [.c (.nm 60)]) rfl rfl rfl (by repeat (first | trivial | refine ⟨fun _ _ => ⟨_, rfl⟩, ?_⟩)))) <|
 .r 0 0 102 [0, 3, 11] [100, 101] <|
 .bind (F_r27_PutBlock [] r2) fun r3 hr3 =>
 .s (.call [(61, 101)] [(900, 102)] (Spec.lend 61 5 1 r2.length (gT (fInt .u8) r2) _ ((c_r27_PutBlock hr3).nilArg 1 _ _ rfl rfl (by kernel_rfl)) (args := [xv (.slice none 0 0), .c (.nm 61)]) rfl rfl rfl (by repeat (first | trivial | refine ⟨fun _ _ => ⟨_, rfl⟩, ?_⟩)))) <|
 .r 0 1 103 [0, 3, 4] [100, 102] <|
 .sq 2 (fun j1 : (List Int) => ⟨[(4, .c (.nm 102))], [(102, .rows 5 1 j1.length (gT (fInt .u8) j1))]⟩) (
 .r 2 1 103 [0, 3, 4, 5] [100, 102] <|
 .s (.cn [0, 3, 4, 5] [100, 102]) <|
 .lp 3 (fun j2 : (Int × List Int) => ⟨[(0, .c (.d (.ro 10 p0.length (gT fS_Event p0)))), (3, .c (.nm 100)), (4, .c (.nm 102)), (5, xi j2.1)], [(100, .rows 9 1 r1.length (gT fStr r1)), (102, .rows 5 1 j2.2.length (gT (fInt .u8) j2.2))]⟩) (0, r3) fun j2 =>
 .r 3 4 103 [0, 3, 4, 5, 16] [100, 102] <|
 .cond 2 (
 .gd ((0 : Int) ≤ j2.1 ∧ j2.1 < (r1.length : Int)) fun g4 =>
 .rp 6 5 103 [0, 3, 4, 5, 20, 24] [100, 102] (some ((((0 : Int) ≤ j2.1 ∧ j2.1 < (r1.length : Int)) ∧ ((Int.toNat j2.1) < r1.length)))) (ob1 (⟨g4, (tn g4)⟩)) <|
 .bind (F_r27_values p0 (r1.getD (Int.toNat j2.1) default)) fun r5 hr5 =>
 .s (.call [] [(900, 103), (901, 104)] (c_r27_values hr5)) <|
 .r 0 5 105 [0, 3, 4, 5, 6, 7] [100, 102, 103, 104] <|
 .r 3 2 105 [0, 3, 5, 7, 28, 29] [100, 102, 103, 104] <|
 .bind (F_r27_postings r5.1) fun r6 hr6 =>
 .s (.call [(60, 103)] [(900, 105)] (Spec.lend 60 3 1 r5.1.length (gT (fInt .i64) r5.1) _ (c_r27_postings hr6) (args := [.c (.nm 60)]) rfl rfl rfl (by repeat (first | trivial | refine ⟨fun _ _ => ⟨_, rfl⟩, ?_⟩)))) <|
 .r 0 0 106 [0, 3, 5, 7, 28, 30] [100, 102, 104, 105] <|
 .bind (F_r27_PutBlock j2.2 r6) fun r7 hr7 =>
 .s (.call [(61, 105), (1, 102)] [(900, 106)] (Spec.lend 61 5 1 r6.length (gT (fInt .u8) r6) _ (c_r27_PutBlock hr7) (args := [.c (.nm 1), .c (.nm 61)]) rfl rfl rfl (by repeat (first | trivial | refine ⟨fun _ _ => ⟨_, rfl⟩, ?_⟩)))) <|
 .r 0 1 107 [0, 3, 5, 31, 32] [100, 104, 106] <|
 .bind (F_r27_indexed r5.2) fun r8 hr8 =>
 .s (.call [(60, 104)] [(900, 107)] (Spec.lend 60 9 1 r5.2.length (gT fStr r5.2) _ (c_r27_indexed hr8) (args := [.c (.nm 60)]) rfl rfl rfl (by repeat (first | trivial | refine ⟨fun _ _ => ⟨_, rfl⟩, ?_⟩)))) <|
 .r 0 0 108 [0, 3, 5, 31, 33] [100, 106, 107] <|
 .gd ((r7.length + r8.length) * 1 ≤ 140737488355328) fun g9 =>
 .s (.appL (fInt .u8) (r7) (r8) (gT (fInt .u8) r7) (.inr rfl) 5 1 1 108 g9) <|
 .r 0 1 109 [0, 3, 4, 5] [100, 108] <|
 .r 4 3 109 [0, 3, 4, 5] [100, 108] <|
 .s (.cn [0, 3, 4, 5] [100, 108]) <|
 .s (.rn 108 102) <|
 .lf 1 [0, 3, 4, 5] [100, 102] (.inl ((IntKind.wrap .i64 (j2.1 + 1)), (r7 ++ r8)))
 ) (
 .lf 1 [4] [102] (.inr (.inl j2.2))
 )
 ) fun j1 =>
 .r 2 2 109 [2] [102] <|
 .s (.rn 102 900) <|
 .lf 3 [2] [900] j1
/-- logtide/logtideref27.fields -/
theorem c_r27_fields {p0 : List S_Event} {r : List Int} (h : F_r27_fields p0 = some r) : Spec Tryz.prog 74 [.c (.d (.ro 10 p0.length (gT fS_Event p0)))] [] (.c (.nm 900)) [(900, .rows 5 1 r.length (gT (fInt .u8) r))] :=
  Cert.spec [900] (fun r : List Int => .c (.nm 900)) (fun r => [(900, .rows 5 1 r.length (gT (fInt .u8) r))]) (z_r27_fields p0) Tryz.func74 rfl (by kernel_rfl) h
noncomputable def L_r27_index_4 (r6 : List ByteArray) (r1 : List ByteArray) (j2 : Int × List (List Int)) (j4 : Int × List (List Int)) : Option ((Int × List (List Int)) ⊕ ((List (List Int)) ⊕ ((Int × List (List Int)) ⊕ ((List (List Int)) ⊕ (List Int))))) :=
 cond (decide (j4.1 < (r6.length : Int))) (
 gd ((0 : Int) ≤ j4.1 ∧ j4.1 < (r6.length : Int)) (
 bnd (F_r23_Index r1 (r6.getD (Int.toNat j4.1) default)) fun r8 =>
 gd ((0 : Int) ≤ r8.1 ∧ r8.1 < (j4.2.length : Int)) (
 gd (((j4.2.getD (Int.toNat r8.1) []).length + ([j2.1] : List Int).length) * 8 ≤ 140737488355328) (
 some (.inl ((IntKind.wrap .i64 (j4.1 + 1)), (j4.2.set (Int.toNat r8.1) ((j4.2.getD (Int.toNat r8.1) []) ++ ([j2.1] : List Int))))))))) (
 some (.inr (.inl j4.2)))
noncomputable def L_r27_index_2 (p0 : List S_Event) (r1 : List ByteArray) (j2 : Int × List (List Int)) : Option ((Int × List (List Int)) ⊕ ((List (List Int)) ⊕ (List Int))) :=
 cond (decide (j2.1 < (p0.length : Int))) (
 bindE (σ := (List (List Int))) (
 gd ((0 : Int) ≤ j2.1 ∧ j2.1 < (p0.length : Int)) (
 bnd (F_r12_Text (p0.getD (Int.toNat j2.1) default)) fun r5 =>
 bnd (F_r27_Words r5) fun r6 =>
 loop (L_r27_index_4 r6 r1 j2) (0, j2.2))) fun j3 =>
 some (.inl ((IntKind.wrap .i64 (j2.1 + 1)), j3))) (
 some (.inr (.inl j2.2)))
noncomputable def L_r27_index_6 (r1 : List ByteArray) (j6 : List (List Int) × Int × List Int) : Option ((List (List Int) × Int × List Int) ⊕ ((List Int) ⊕ (List Int))) :=
 cond (decide (j6.2.1 < (r1.length : Int))) (
 gd ((0 : Int) ≤ j6.2.1 ∧ j6.2.1 < (j6.1.length : Int)) (
 bnd (F_r27_postings (j6.1.getD (Int.toNat j6.2.1) default)) fun r15 =>
 bnd (F_r27_PutBlock j6.2.2 r15) fun r16 =>
 some (.inl (j6.1, (IntKind.wrap .i64 (j6.2.1 + 1)), r16)))) (
 some (.inr (.inl j6.2.2)))
noncomputable def F_r27_index (p0 : List S_Event) : Option (List Int) :=
 bnd (F_r27_words p0) fun r1 =>
 gd ((0 : Int) ≤ (r1.length : Int)) (
 gd ((r1.length : Int) * 24 ≤ 140737488355328) (
 bindE (σ := (List (List Int))) (
 loop (L_r27_index_2 p0 r1) (0, (List.replicate (Int.toNat (r1.length : Int)) ([] : List Int)))) fun j1 =>
 bnd (F_r27_dictionary r1) fun r12 =>
 bnd (F_r27_PutBlock [] r12) fun r13 =>
 bindE (σ := (List Int)) (
 loop (L_r27_index_6 r1) (j1, 0, r13)) fun j5 =>
 some j5))
noncomputable def z_r27_index (p0 : List S_Event) : Cert2 Tryz.prog 71 (List Int) :=
 .r 2 1 100 [0] [] <|
 .r 4 1 100 [0, 12] [] <|
 .bind (F_r27_words p0) fun r1 hr1 =>
 .s (.call [] [(900, 100)] (c_r27_words hr1)) <|
 .r 0 1 101 [0, 3] [100] <|
 .r 4 2 101 [0, 3, 15] [100] <|
 .gd ((0 : Int) ≤ (r1.length : Int)) fun g2 =>
 .gd ((r1.length : Int) * 24 ≤ 140737488355328) fun g3 =>
 .s (.make (fun (x : Value) _ => .v x) (.slice none 0 0) (r1.length : Int) 38 1 24 101 g2 g3) <|
 .s (.reR 101 38 1 _ ((List.replicate (Int.toNat (r1.length : Int)) ([] : List Int)).length) _ (fun i _ => .v ((fun _ => .slice none 0 0) i)) (rr0 (α := Int) (Int.toNat (r1.length : Int)))) <|
 .rrN (fInt .i64) 3 1 (Int.toNat (r1.length : Int)) <|
 .r 0 1 102 [0, 3, 4] [100, 101] <|
 .sq 2 (fun (j1 : (List (List Int))) (gh1 : Nat → Value) => (⟨[(3, .c (.nm 100)), (4, .c (.nm 101))], [(100, .rows 9 1 r1.length (gT fStr r1)), (101, .rows 38 1 j1.length (fun i _ => .v (gh1 i)))]⟩, (rrT (fInt .i64) 3 1 gh1 j1 none))) (
 .r 2 1 102 [0, 3, 4, 5] [100, 101] <|
 .s (.cn [0, 3, 4, 5] [100, 101]) <|
 .lp 3 (fun _ => .slice none 0 0 : Nat → Value) (fun (j2 : (Int × List (List Int))) (gh2 : Nat → Value) => (⟨[(0, .c (.d (.ro 10 p0.length (gT fS_Event p0)))), (3, .c (.nm 100)), (4, .c (.nm 101)), (5, xi j2.1)], [(100, .rows 9 1 r1.length (gT fStr r1)), (101, .rows 38 1 j2.2.length (fun i _ => .v (gh2 i)))]⟩, (rrT (fInt .i64) 3 1 gh2 j2.2 none))) (0, (List.replicate (Int.toNat (r1.length : Int)) ([] : List Int))) fun j2 gh2 =>
 .r 3 4 102 [0, 3, 4, 5, 20] [100, 101] <|
 .cond 2 (
 .sq 2 (fun (j3 : (List (List Int))) (gh3 : Nat → Value) => (⟨[(0, .c (.d (.ro 10 p0.length (gT fS_Event p0)))), (3, .c (.nm 100)), (4, .c (.nm 101)), (5, xi j2.1)], [(100, .rows 9 1 r1.length (gT fStr r1)), (101, .rows 38 1 j3.length (fun i _ => .v (gh3 i)))]⟩, (rrT (fInt .i64) 3 1 gh3 j3 none))) (
 .gd ((0 : Int) ≤ j2.1 ∧ j2.1 < (p0.length : Int)) fun g4 =>
 .rp 3 4 102 [0, 3, 4, 5, 26] [100, 101] (some (((0 : Int) ≤ j2.1 ∧ j2.1 < (p0.length : Int)))) (ob1 g4) <|
 .bind (F_r12_Text (p0.getD (Int.toNat j2.1) default)) fun r5 hr5 =>
 .s (.call [] [] (c_r12_Text hr5)) <|
 .r 0 0 102 [0, 3, 4, 5, 27] [100, 101] <|
 .bind (F_r27_Words r5) fun r6 hr6 =>
 .s (.call [] [(900, 102)] (c_r27_Words hr6)) <|
 .r 0 1 103 [0, 3, 4, 5, 6] [100, 101, 102] <|
 .r 4 1 103 [0, 3, 4, 5, 6, 7] [100, 101, 102] <|
 .s (.cn [0, 3, 4, 5, 6, 7] [100, 101, 102]) <|
 .lp 3 gh2 (fun (j4 : (Int × List (List Int))) (gh4 : Nat → Value) => (⟨[(0, .c (.d (.ro 10 p0.length (gT fS_Event p0)))), (3, .c (.nm 100)), (4, .c (.nm 101)), (5, xi j2.1), (6, .c (.nm 102)), (7, xi j4.1)], [(100, .rows 9 1 r1.length (gT fStr r1)), (101, .rows 38 1 j4.2.length (fun i _ => .v (gh4 i))), (102, .rows 9 1 r6.length (gT fStr r6))]⟩, (rrT (fInt .i64) 3 1 gh4 j4.2 none))) (0, j2.2) fun j4 gh4 =>
 .r 3 4 103 [0, 3, 4, 5, 6, 7, 32] [100, 101, 102] <|
 .cond 2 (
 .gd ((0 : Int) ≤ j4.1 ∧ j4.1 < (r6.length : Int)) fun g7 =>
 .rp 6 5 103 [0, 3, 4, 5, 6, 7, 36, 40] [100, 101, 102] (some ((((0 : Int) ≤ j4.1 ∧ j4.1 < (r6.length : Int)) ∧ ((Int.toNat j4.1) < r6.length)))) (ob1 (⟨g7, (tn g7)⟩)) <|
 .bind (F_r23_Index r1 (r6.getD (Int.toNat j4.1) default)) fun r8 hr8 =>
 .s (.call [(60, 100)] [] (Spec.lend 60 9 1 r1.length (gT fStr r1) _ (c_r23_Index hr8) (args := [.c (.nm 60), xs (r6.getD (Int.toNat j4.1) default)]) rfl rfl rfl (by repeat (first | trivial | refine ⟨fun _ _ => ⟨_, rfl⟩, ?_⟩)))) <|
 .r 0 5 103 [0, 3, 4, 5, 6, 7, 8] [100, 101, 102] <|
 .gd ((0 : Int) ≤ r8.1 ∧ r8.1 < (j4.2.length : Int)) fun g9 =>
 .rp 3 8 103 [0, 3, 4, 5, 6, 7, 44, 45, 49, 51] [100, 101, 102] (some ((((0 : Int) ≤ r8.1 ∧ r8.1 < (j4.2.length : Int)) ∧ ((Int.toNat r8.1) < j4.2.length)))) (ob1 (⟨g9, (tn g9)⟩)) <|
 .take (fInt .i64) 3 1 gh4 j4.2 49 103 (Int.toNat r8.1) (tn g9) <|
 .gd (((j4.2.getD (Int.toNat r8.1) []).length + ([j2.1] : List Int).length) * 8 ≤ 140737488355328) fun g10 =>
 .s (.appL (fInt .i64) ((j4.2.getD (Int.toNat r8.1) [])) (([j2.1] : List Int)) (gT (fInt .i64) (j4.2.getD (Int.toNat r8.1) [])) (.inr rfl) 3 1 8 104 g10) <|
 .rp 0 1 105 [0, 3, 4, 5, 6, 7, 52, 53] [100, 101, 102, 104] (some (((0 : Int) ≤ r8.1 ∧ r8.1 < (j4.2.length : Int)))) (ob1 g9) <|
 .put (fInt .i64) 3 1 gh4 j4.2 ((j4.2.getD (Int.toNat r8.1) []) ++ ([j2.1] : List Int)) 52 104 (Int.toNat r8.1) (tn g9) fun u11 hu11 =>
 .s (.stV 101 38 (j4.2.length) ((j4.2.set (Int.toNat r8.1) ((j4.2.getD (Int.toNat r8.1) []) ++ ([j2.1] : List Int))).length) (Int.toNat r8.1) gh4 u11 hu11 (tn g9) (List.length_set ..).symm) <|
 .r 0 0 105 [0, 3, 4, 5, 6, 7] [100, 101, 102] <|
 .r 4 3 105 [0, 3, 4, 5, 6, 7] [100, 101, 102] <|
 .lf 1 [0, 3, 4, 5, 6, 7] [100, 101, 102] (fun x => if x = (Int.toNat r8.1) then u11 else gh4 x) (.inl ((IntKind.wrap .i64 (j4.1 + 1)), (j4.2.set (Int.toNat r8.1) ((j4.2.getD (Int.toNat r8.1) []) ++ ([j2.1] : List Int)))))
 ) (
 .lf 1 [0, 3, 4, 5] [100, 101] gh4 (.inr (.inl j4.2))
 )
 ) fun j3 gh3 =>
 .r 1 3 105 [0, 3, 4, 5] [100, 101] <|
 .lf 1 [0, 3, 4, 5] [100, 101] gh3 (.inl ((IntKind.wrap .i64 (j2.1 + 1)), j3))
 ) (
 .lf 1 [3, 4] [100, 101] gh2 (.inr (.inl j2.2))
 )
 ) fun j1 gh1 =>
 .r 2 1 105 [3, 4, 54] [100, 101] <|
 .bind (F_r27_dictionary r1) fun r12 hr12 =>
 .s (.call [(60, 100)] [(900, 105)] (Spec.lend 60 9 1 r1.length (gT fStr r1) _ (c_r27_dictionary hr12) (args := [.c (.nm 60)]) rfl rfl rfl (by repeat (first | trivial | refine ⟨fun _ _ => ⟨_, rfl⟩, ?_⟩)))) <|
 .r 0 0 106 [3, 4, 55] [100, 101, 105] <|
 .bind (F_r27_PutBlock [] r12) fun r13 hr13 =>
 .s (.call [(61, 105)] [(900, 106)] (Spec.lend 61 5 1 r12.length (gT (fInt .u8) r12) _ ((c_r27_PutBlock hr13).nilArg 1 _ _ rfl rfl (by kernel_rfl)) (args := [xv (.slice none 0 0), .c (.nm 61)]) rfl rfl rfl (by repeat (first | trivial | refine ⟨fun _ _ => ⟨_, rfl⟩, ?_⟩)))) <|
 .r 0 1 107 [3, 4, 10] [100, 101, 106] <|
 .sq 2 (fun (j5 : (List Int)) (gh5 : Nat → Value) => (⟨[(10, .c (.nm 106))], [(106, .rows 5 1 j5.length (gT (fInt .u8) j5))]⟩, .no)) (
 .r 2 1 107 [3, 4, 10, 11] [100, 101, 106] <|
 .rrFz (fInt .i64) 3 1 gh1 j1 101 38 <|
 .s (.cn [3, 4, 10, 11] [100, 106]) <|
 .lp 3 gh0 (fun (j6 : (List (List Int) × Int × List Int)) (gh6 : Nat → Value) => (⟨[(3, .c (.nm 100)), (4, .c (.d (.ro 1 j6.1.length (gT (fSl 1 (fInt .i64)) j6.1)))), (10, .c (.nm 106)), (11, xi j6.2.1)], [(100, .rows 9 1 r1.length (gT fStr r1)), (106, .rows 5 1 j6.2.2.length (gT (fInt .u8) j6.2.2))]⟩, .no)) (j1, 0, r13) fun j6 gh6 =>
 .r 3 4 107 [3, 4, 10, 11, 60] [100, 106] <|
 .cond 2 (
 .gd ((0 : Int) ≤ j6.2.1 ∧ j6.2.1 < (j6.1.length : Int)) fun g14 =>
 .rp 5 5 107 [3, 4, 11, 63, 67] [100, 106] (some (((0 : Int) ≤ j6.2.1 ∧ j6.2.1 < (j6.1.length : Int)))) (ob1 g14) <|
 .bind (F_r27_postings (j6.1.getD (Int.toNat j6.2.1) default)) fun r15 hr15 =>
 .s (.call [] [(900, 107)] (c_r27_postings hr15)) <|
 .r 0 0 108 [3, 4, 11, 63, 68] [100, 106, 107] <|
 .bind (F_r27_PutBlock j6.2.2 r15) fun r16 hr16 =>
 .s (.call [(61, 107), (1, 106)] [(900, 108)] (Spec.lend 61 5 1 r15.length (gT (fInt .u8) r15) _ (c_r27_PutBlock hr16) (args := [.c (.nm 1), .c (.nm 61)]) rfl rfl rfl (by repeat (first | trivial | refine ⟨fun _ _ => ⟨_, rfl⟩, ?_⟩)))) <|
 .r 0 1 109 [3, 4, 10, 11] [100, 108] <|
 .r 4 3 109 [3, 4, 10, 11] [100, 108] <|
 .s (.cn [3, 4, 10, 11] [100, 108]) <|
 .s (.rn 108 106) <|
 .lf 1 [3, 4, 10, 11] [100, 106] gh0 (.inl (j6.1, (IntKind.wrap .i64 (j6.2.1 + 1)), r16))
 ) (
 .lf 1 [10] [106] gh0 (.inr (.inl j6.2.2))
 )
 ) fun j5 gh5 =>
 .r 2 2 109 [2] [106] <|
 .s (.rn 106 900) <|
 .lf 3 [2] [900] gh0 j5
/-- logtide/logtideref27.index -/
theorem c_r27_index {p0 : List S_Event} {r : List Int} (h : F_r27_index p0 = some r) : Spec Tryz.prog 75 [.c (.d (.ro 10 p0.length (gT fS_Event p0)))] [] (.c (.nm 900)) [(900, .rows 5 1 r.length (gT (fInt .u8) r))] :=
  Cert2.spec [900] (fun r : List Int => .c (.nm 900)) (fun r => [(900, .rows 5 1 r.length (gT (fInt .u8) r))]) (z_r27_index p0) Tryz.func75 rfl (by kernel_rfl) h
noncomputable def L_r27_Terms_2 (p0 : S_Event) (j2 : Int × List ByteArray) : Option ((Int × List ByteArray) ⊕ ((List ByteArray) ⊕ (List ByteArray))) :=
 cond (decide (j2.1 < (p0.Fields.length : Int))) (
 bindE (σ := (List ByteArray)) (
 gd ((0 : Int) ≤ j2.1 ∧ j2.1 < (p0.Fields.length : Int)) (
 gd (((p0.Fields.getD (Int.toNat j2.1) default).Name).size + (ByteArray.mk #[61]).size ≤ 9223372036854775807) (
 gd ((((p0.Fields.getD (Int.toNat j2.1) default).Name) ++ (ByteArray.mk #[61])).size + ((p0.Fields.getD (Int.toNat j2.1) default).Value).size ≤ 9223372036854775807) (
 bd ((((p0.Fields.getD (Int.toNat j2.1) default).Name) ++ (ByteArray.mk #[61])) ++ ((p0.Fields.getD (Int.toNat j2.1) default).Value)) fun x6 =>
 cond (decide ((x6.size : Int) ≤ 2048)) (
 gd ((j2.2.length + ([x6] : List ByteArray).length) * 16 ≤ 140737488355328) (
 some (.inl (j2.2 ++ ([x6] : List ByteArray))))) (
 some (.inl j2.2)))))) fun j3 =>
 some (.inl ((IntKind.wrap .i64 (j2.1 + 1)), j3))) (
 some (.inr (.inl j2.2)))
noncomputable def F_r27_Terms (p0 : S_Event) : Option (List ByteArray) :=
 bnd (F_r12_Text p0) fun r1 =>
 bnd (F_r27_Words r1) fun r2 =>
 bindE (σ := (List ByteArray)) (
 loop (L_r27_Terms_2 p0) (0, r2)) fun j1 =>
 bnd (F_r23_Distinct j1) fun r8 =>
 some r8
noncomputable def z_r27_Terms (p0 : S_Event) : Cert Tryz.prog 39 (List ByteArray) :=
 .r 2 2 100 [1] [100] <|
 .r 4 1 101 [1, 6] [100] <|
 .bind (F_r12_Text p0) fun r1 hr1 =>
 .s (.call [] [] (c_r12_Text hr1)) <|
 .r 0 0 101 [1, 7] [100] <|
 .bind (F_r27_Words r1) fun r2 hr2 =>
 .s (.call [] [(900, 101)] (c_r27_Words hr2)) <|
 .r 0 1 102 [1, 3] [100, 101] <|
 .sq 2 (fun j1 : (List ByteArray) => ⟨[(3, .c (.nm 101))], [(101, .rows 9 1 j1.length (gT fStr j1))]⟩) (
 .r 2 1 102 [1, 3, 4] [100, 101] <|
 .s (.cn [1, 3, 4] [100, 101]) <|
 .lp 3 (fun j2 : (Int × List ByteArray) => ⟨[(1, .c (.np 100 10 0 0)), (3, .c (.nm 101)), (4, xi j2.1)], [(100, .box 67 (bS_Event p0)), (101, .rows 9 1 j2.2.length (gT fStr j2.2))]⟩) (0, r2) fun j2 =>
 .r 3 5 102 [1, 3, 4, 13] [100, 101] <|
 .cond 2 (
 .sq 2 (fun j3 : (List ByteArray) => ⟨[(1, .c (.np 100 10 0 0)), (3, .c (.nm 102)), (4, xi j2.1)], [(100, .box 67 (bS_Event p0)), (102, .rows 9 1 j3.length (gT fStr j3))]⟩) (
 .s (.cn [1, 3, 4] [100, 101]) <|
 .gd ((0 : Int) ≤ j2.1 ∧ j2.1 < (p0.Fields.length : Int)) fun g3 =>
 .gd (((p0.Fields.getD (Int.toNat j2.1) default).Name).size + (ByteArray.mk #[61]).size ≤ 9223372036854775807) fun g4 =>
 .gd ((((p0.Fields.getD (Int.toNat j2.1) default).Name) ++ (ByteArray.mk #[61])).size + ((p0.Fields.getD (Int.toNat j2.1) default).Value).size ≤ 9223372036854775807) fun g5 =>
 .m 2 <|
 .s (.dr [] (let u1 := (p0.Fields.getD (Int.toNat j2.1) default); let u2 := (((0 : Int) ≤ j2.1 ∧ j2.1 < (p0.Fields.length : Int))); [(3, some u2), (6, some (((u1.Name).size + (ByteArray.mk #[61]).size ≤ 9223372036854775807))), (10, some u2), (13, some ((((u1.Name) ++ (ByteArray.mk #[61])).size + (u1.Value).size ≤ 9223372036854775807)))]) (obsAll.cons (ob1 g3) (obsAll.cons (ob1 g4) (obsAll.cons (ob1 g3) (obsAll.cons (ob1 g5) obsAll.nil)))) [1, 3, 4, 5] [100, 101]) <|
 .bs (((((p0.Fields.getD (Int.toNat j2.1) default).Name) ++ (ByteArray.mk #[61])) ++ ((p0.Fields.getD (Int.toNat j2.1) default).Value))) [5] xs fun x6 =>
 .r 4 3 102 [1, 3, 4, 5, 32] [100, 101] <|
 .cond 2 (
 .r 1 3 102 [1, 4, 33, 35] [100, 101] <|
 .gd ((j2.2.length + ([x6] : List ByteArray).length) * 16 ≤ 140737488355328) fun g7 =>
 .s (.appL fStr (j2.2) (([x6] : List ByteArray)) (gT fStr j2.2) (.inr rfl) 9 1 16 102 g7) <|
 .r 0 1 103 [1, 3, 4] [100, 102] <|
 .lf 1 [1, 3, 4] [100, 102] (.inl (j2.2 ++ ([x6] : List ByteArray)))
 ) (
 .s (.cn [1, 3, 4] [100, 101]) <|
 .s (.rn 101 102) <|
 .lf 1 [1, 3, 4] [100, 102] (.inl j2.2)
 )
 ) fun j3 =>
 .r 1 3 103 [1, 3, 4] [100, 102] <|
 .s (.cn [1, 3, 4] [100, 102]) <|
 .s (.rn 102 101) <|
 .lf 1 [1, 3, 4] [100, 101] (.inl ((IntKind.wrap .i64 (j2.1 + 1)), j3))
 ) (
 .lf 1 [3] [101] (.inr (.inl j2.2))
 )
 ) fun j1 =>
 .r 2 1 103 [37] [101] <|
 .bind (F_r23_Distinct j1) fun r8 hr8 =>
 .s (.call [(60, 101)] [(900, 103)] (Spec.lend 60 9 1 j1.length (gT fStr j1) _ (c_r23_Distinct hr8) (args := [.c (.nm 60)]) rfl rfl rfl (by repeat (first | trivial | refine ⟨fun _ _ => ⟨_, rfl⟩, ?_⟩)))) <|
 .r 0 1 104 [2] [103] <|
 .s (.rn 103 900) <|
 .lf 3 [2] [900] r8
/-- logtide/logtideref27.Terms -/
theorem c_r27_Terms {p0 : S_Event} {r : List ByteArray} (h : F_r27_Terms p0 = some r) : Spec Tryz.prog 107 [.agg (bS_Event p0)] [] (.c (.nm 900)) [(900, .rows 9 1 r.length (gT fStr r))] :=
  Cert.spec [900] (fun r : List ByteArray => .c (.nm 900)) (fun r => [(900, .rows 9 1 r.length (gT fStr r))]) (z_r27_Terms p0) Tryz.func107 rfl (by kernel_rfl) h
noncomputable def F_r26_New (p0 : Int) (p1 : Int) : Option (S_Filter × Int) :=
 bd (cond (cond (cond (decide (p0 < 1)) true (decide (p0 > 65536))) true (decide (p1 < 1))) true (decide (p1 > 8))) fun x1 =>
 cond x1 (
 some ({ (⟨(0 : Int), []⟩ : S_Filter) with Bits := ([] : List Int) }, 2)) (
 gd ((0 : Int) ≤ (IntKind.wrap .i64 (Int.tdiv (IntKind.wrap .i64 (p0 + 63)) 64))) (
 gd ((IntKind.wrap .i64 (Int.tdiv (IntKind.wrap .i64 (p0 + 63)) 64)) * 8 ≤ 140737488355328) (
 bd (List.replicate (Int.toNat (IntKind.wrap .i64 (Int.tdiv (IntKind.wrap .i64 (p0 + 63)) 64))) (0 : Int)) fun x4 =>
 some ({ (⟨p1, []⟩ : S_Filter) with Bits := x4 }, 0))))
noncomputable def z_r26_New (p0 : Int) (p1 : Int) : Cert Tryz.prog 27 (S_Filter × Int) :=
 .r 2 2 100 [0, 1, 4] [100] <|
 .rp 5 14 101 [0, 1, 4, 19] [100] (let u1 := (cond (decide (p0 < 1)) true (decide (p0 > 65536))); let u2 := (cond u1 true (decide (p1 < 1))); let u3 := (!(decide (p0 < 1))); some (((u3 = true → u3 = true) ∧ (((decide (p0 < 1)) = false → u3 = true) ∧ (((!u1) = true → (!u1) = true) ∧ ((u1 = false → (!u1) = true) ∧ (((!u2) = true → (!u2) = true) ∧ (u2 = false → (!u2) = true)))))))) (ob1 (⟨fun h => h, ⟨(fun h => by rw [h]; rfl), ⟨fun h => h, ⟨(fun h => by rw [h]; rfl), ⟨fun h => h, (fun h => by rw [h]; rfl)⟩⟩⟩⟩⟩)) <|
 .bs ((cond (cond (cond (decide (p0 < 1)) true (decide (p0 > 65536))) true (decide (p1 < 1))) true (decide (p1 > 8)))) [19] xb fun x1 =>
 .cond 2 (
 .r 2 3 101 [4, 5] [100] <|
 .s (.ownB 100 1 101 97 1 (gT (fInt .u64) [])) <|
 .s (.rn 101 910) <|
 .lf 3 [4, 5] [100, 910] ({ (⟨(0 : Int), []⟩ : S_Filter) with Bits := ([] : List Int) }, 2)
 ) (
 .rp 4 4 102 [4, 21, 24] [100] (some (((64 : Int) ≠ 0))) (ob1 (by decide)) <|
 .gd ((0 : Int) ≤ (IntKind.wrap .i64 (Int.tdiv (IntKind.wrap .i64 (p0 + 63)) 64))) fun g2 =>
 .gd ((IntKind.wrap .i64 (Int.tdiv (IntKind.wrap .i64 (p0 + 63)) 64)) * 8 ≤ 140737488355328) fun g3 =>
 .s (.make (fInt .u64) (0 : Int) (IntKind.wrap .i64 (Int.tdiv (IntKind.wrap .i64 (p0 + 63)) 64)) 97 1 8 102 g2 g3) <|
 .r 0 3 103 [4, 5] [100, 102] <|
 .bh ((List.replicate (Int.toNat (IntKind.wrap .i64 (Int.tdiv (IntKind.wrap .i64 (p0 + 63)) 64))) (0 : Int))) 102 (fun x4 => .rows 97 1 x4.length (gT (fInt .u64) x4)) fun x4 =>
 .s (.rn 102 910) <|
 .lf 3 [4, 5] [100, 910] ({ (⟨p1, []⟩ : S_Filter) with Bits := x4 }, 0)
 )
/-- logtide/logtideref26.New -/
theorem c_r26_New {p0 : Int} {p1 : Int} {r : S_Filter × Int} (h : F_r26_New p0 p1 = some r) : Spec Tryz.prog 122 [xi p0, xi p1] [] (.tup [.agg ((bS_Filter r.1).set 1 (.nm 910)), xi r.2]) [(910, .rows 97 1 r.1.Bits.length (gT (fInt .u64) r.1.Bits))] :=
  Cert.spec [910] (fun r : S_Filter × Int => .tup [.agg ((bS_Filter r.1).set 1 (.nm 910)), xi r.2]) (fun r => [(910, .rows 97 1 r.1.Bits.length (gT (fInt .u64) r.1.Bits))]) (z_r26_New p0 p1) Tryz.func122 rfl (by kernel_rfl) h
noncomputable def L_r26_Hash_2 (p1 : ByteArray) (j2 : Int × Int) : Option ((Int × Int) ⊕ ((Int) ⊕ (Int))) :=
 cond (decide (j2.2 < (p1.size : Int))) (
 gd ((0 : Int) ≤ j2.2 ∧ j2.2 < (p1.size : Int)) (
 bd (IntKind.wrap .u32 ((IntKind.wrap .u32 ((BitVec.ofInt 32 j2.1 ^^^ BitVec.ofInt 32 (IntKind.wrap .u32 ((bt p1 j2.2)))).toNat : Int)) * 16777619)) fun x2 =>
 some (.inl (x2, (IntKind.wrap .i64 (j2.2 + 1)))))) (
 some (.inr (.inl j2.1)))
noncomputable def F_r26_Hash (p0 : Int) (p1 : ByteArray) : Option (Int) :=
 bindE (σ := (Int)) (
 loop (L_r26_Hash_2 p1) ((IntKind.wrap .u32 ((BitVec.ofInt 32 2166136261 ^^^ BitVec.ofInt 32 p0).toNat : Int)), 0)) fun j1 =>
 bd (IntKind.wrap .u32 ((BitVec.ofInt 32 j1 ^^^ BitVec.ofInt 32 (Int.fdiv j1 (2 ^ (min (Int.toNat 15) 32)))).toNat : Int)) fun x3 =>
 bd (IntKind.wrap .u32 ((BitVec.ofInt 32 (IntKind.wrap .u32 (x3 * 2246822519)) ^^^ BitVec.ofInt 32 (Int.fdiv (IntKind.wrap .u32 (x3 * 2246822519)) (2 ^ (min (Int.toNat 13) 32)))).toNat : Int)) fun x4 =>
 some x4
noncomputable def z_r26_Hash (p0 : Int) (p1 : ByteArray) : Cert Tryz.prog 32 (Int) :=
 .r 2 1 100 [0, 1] [] <|
 .r 4 3 100 [1, 5] [] <|
 .sq 2 (fun j1 : (Int) => ⟨[(5, .c (.d (.v (.int .u32 j1))))], []⟩) (
 .r 2 1 100 [1, 5, 6] [] <|
 .s (.cn [1, 5, 6] []) <|
 .lp 3 (fun j2 : (Int × Int) => ⟨[(1, xs p1), (5, .c (.d (.v (.int .u32 j2.1)))), (6, xi j2.2)], []⟩) ((IntKind.wrap .u32 ((BitVec.ofInt 32 2166136261 ^^^ BitVec.ofInt 32 p0).toNat : Int)), 0) fun j2 =>
 .r 3 4 100 [1, 5, 6, 12] [] <|
 .cond 2 (
 .gd ((0 : Int) ≤ j2.2 ∧ j2.2 < (p1.size : Int)) fun g1 =>
 .rp 5 8 100 [1, 5, 6] [] (some (((0 : Int) ≤ j2.2 ∧ j2.2 < (p1.size : Int)))) (ob1 g1) <|
 .bs ((IntKind.wrap .u32 ((IntKind.wrap .u32 ((BitVec.ofInt 32 j2.1 ^^^ BitVec.ofInt 32 (IntKind.wrap .u32 ((bt p1 j2.2)))).toNat : Int)) * 16777619))) [5] (fun x2 => .c (.d (.v (.int .u32 x2)))) fun x2 =>
 .r 4 3 100 [1, 5, 6] [] <|
 .lf 1 [1, 5, 6] [] (.inl (x2, (IntKind.wrap .i64 (j2.2 + 1))))
 ) (
 .lf 1 [5] [] (.inr (.inl j2.1))
 )
 ) fun j1 =>
 .rp 2 5 100 [5] [] (some (((0 : Int) ≤ (15 : Int)))) (ob1 (by decide)) <|
 .bs ((IntKind.wrap .u32 ((BitVec.ofInt 32 j1 ^^^ BitVec.ofInt 32 (Int.fdiv j1 (2 ^ (min (Int.toNat 15) 32)))).toNat : Int))) [5] (fun x3 => .c (.d (.v (.int .u32 x3)))) fun x3 =>
 .r 4 3 100 [5] [] <|
 .rp 4 5 100 [4] [] (some (((0 : Int) ≤ (13 : Int)))) (ob1 (by decide)) <|
 .bs ((IntKind.wrap .u32 ((BitVec.ofInt 32 (IntKind.wrap .u32 (x3 * 2246822519)) ^^^ BitVec.ofInt 32 (Int.fdiv (IntKind.wrap .u32 (x3 * 2246822519)) (2 ^ (min (Int.toNat 13) 32)))).toNat : Int))) [4] (fun x4 => .c (.d (.v (.int .u32 x4)))) fun x4 =>
 .lf 3 [4] [] x4
/-- logtide/logtideref26.Hash -/
theorem c_r26_Hash {p0 : Int} {p1 : ByteArray} {r : Int} (h : F_r26_Hash p0 p1 = some r) : Spec Tryz.prog 132 [.c (.d (.v (.int .u32 p0))), xs p1] [] (.c (.d (.v (.int .u32 r)))) [] :=
  Cert.spec [] (fun r : Int => .c (.d (.v (.int .u32 r)))) (fun r => []) (z_r26_Hash p0 p1) Tryz.func132 rfl (by kernel_rfl) h
noncomputable def L_r26_Positions_2 (p0 : S_Filter) (r1 : Int) (r2 : Int) (j2 : Int × List Int) : Option ((Int × List Int) ⊕ ((List Int) ⊕ (List Int))) :=
 cond (decide (j2.1 < p0.Hashes)) (
 gd (((IntKind.wrap .i64 (64 * (p0.Bits.length : Int))) : Int) ≠ 0) (
 gd ((j2.2.length + ([(Int.tmod (IntKind.wrap .i64 ((IntKind.wrap .u32 (r1 + (IntKind.wrap .u32 ((IntKind.wrap .u32 (j2.1)) * r2)))))) (IntKind.wrap .i64 (64 * (p0.Bits.length : Int))))] : List Int).length) * 8 ≤ 140737488355328) (
 bd (j2.2 ++ ([(Int.tmod (IntKind.wrap .i64 ((IntKind.wrap .u32 (r1 + (IntKind.wrap .u32 ((IntKind.wrap .u32 (j2.1)) * r2)))))) (IntKind.wrap .i64 (64 * (p0.Bits.length : Int))))] : List Int)) fun x5 =>
 some (.inl ((IntKind.wrap .i64 (j2.1 + 1)), x5))))) (
 some (.inr (.inl j2.2)))
noncomputable def F_r26_Positions (p0 : S_Filter) (p1 : ByteArray) : Option (List Int) :=
 bnd (F_r26_Hash 0 p1) fun r1 =>
 bnd (F_r26_Hash 1 p1) fun r2 =>
 bindE (σ := (List Int)) (
 loop (L_r26_Positions_2 p0 r1 r2) (0, ([] : List Int))) fun j1 =>
 some j1
noncomputable def z_r26_Positions (p0 : S_Filter) (p1 : ByteArray) : Cert Tryz.prog 35 (List Int) :=
 .r 2 2 100 [1, 2] [100] <|
 .r 4 1 101 [1, 2, 9] [100] <|
 .bind (F_r26_Hash 0 p1) fun r1 hr1 =>
 .s (.call [] [] (c_r26_Hash hr1)) <|
 .r 0 1 101 [2, 10, 11] [100] <|
 .bind (F_r26_Hash 1 p1) fun r2 hr2 =>
 .s (.call [] [] (c_r26_Hash hr2)) <|
 .r 0 2 101 [2, 5, 6] [100] <|
 .r 4 1 101 [2, 5, 6, 7] [100] <|
 .sq 2 (fun j1 : (List Int) => ⟨[(7, .c (.nm 101))], [(101, .rows 3 1 j1.length (gT (fInt .i64) j1))]⟩) (
 .r 2 1 101 [2, 5, 6, 7, 8] [100] <|
 .s (.own 7 101 3 1 (gT (fInt .i64) [])) <|
 .s (.cn [2, 5, 6, 7, 8] [100, 101]) <|
 .lp 3 (fun j2 : (Int × List Int) => ⟨[(2, .c (.np 100 2 0 0)), (5, .c (.d (.v (.int .u32 r1)))), (6, .c (.d (.v (.int .u32 r2)))), (7, .c (.nm 101)), (8, xi j2.1)], [(100, .box 166 (bS_Filter p0)), (101, .rows 3 1 j2.2.length (gT (fInt .i64) j2.2))]⟩) (0, ([] : List Int)) fun j2 =>
 .r 3 4 102 [2, 5, 6, 7, 8, 16] [100, 101] <|
 .cond 2 (
 .gd (((IntKind.wrap .i64 (64 * (p0.Bits.length : Int))) : Int) ≠ 0) fun g3 =>
 .rp 5 14 102 [2, 5, 6, 8, 19, 32] [100, 101] (some ((((IntKind.wrap .i64 (64 * (p0.Bits.length : Int))) : Int) ≠ 0))) (ob1 g3) <|
 .gd ((j2.2.length + ([(Int.tmod (IntKind.wrap .i64 ((IntKind.wrap .u32 (r1 + (IntKind.wrap .u32 ((IntKind.wrap .u32 (j2.1)) * r2)))))) (IntKind.wrap .i64 (64 * (p0.Bits.length : Int))))] : List Int).length) * 8 ≤ 140737488355328) fun g4 =>
 .s (.appL (fInt .i64) (j2.2) (([(Int.tmod (IntKind.wrap .i64 ((IntKind.wrap .u32 (r1 + (IntKind.wrap .u32 ((IntKind.wrap .u32 (j2.1)) * r2)))))) (IntKind.wrap .i64 (64 * (p0.Bits.length : Int))))] : List Int)) (gT (fInt .i64) j2.2) (.inr rfl) 3 1 8 102 g4) <|
 .r 0 1 103 [2, 5, 6, 7, 8] [100, 102] <|
 .bh ((j2.2 ++ ([(Int.tmod (IntKind.wrap .i64 ((IntKind.wrap .u32 (r1 + (IntKind.wrap .u32 ((IntKind.wrap .u32 (j2.1)) * r2)))))) (IntKind.wrap .i64 (64 * (p0.Bits.length : Int))))] : List Int))) 102 (fun x5 => .rows 3 1 x5.length (gT (fInt .i64) x5)) fun x5 =>
 .r 4 3 103 [2, 5, 6, 7, 8] [100, 102] <|
 .s (.cn [2, 5, 6, 7, 8] [100, 102]) <|
 .s (.rn 102 101) <|
 .lf 1 [2, 5, 6, 7, 8] [100, 101] (.inl ((IntKind.wrap .i64 (j2.1 + 1)), x5))
 ) (
 .lf 1 [7] [101] (.inr (.inl j2.2))
 )
 ) fun j1 =>
 .r 2 2 103 [4] [101] <|
 .s (.rn 101 900) <|
 .lf 3 [4] [900] j1
/-- logtide/logtideref26.Positions -/
theorem c_r26_Positions {p0 : S_Filter} {p1 : ByteArray} {r : List Int} (h : F_r26_Positions p0 p1 = some r) : Spec Tryz.prog 123 [.agg (bS_Filter p0), xs p1] [] (.c (.nm 900)) [(900, .rows 3 1 r.length (gT (fInt .i64) r))] :=
  Cert.spec [900] (fun r : List Int => .c (.nm 900)) (fun r => [(900, .rows 3 1 r.length (gT (fInt .i64) r))]) (z_r26_Positions p0 p1) Tryz.func123 rfl (by kernel_rfl) h
noncomputable def L_r26_Build_4 (r3 : List Int) (j4 : Int × List Int) : Option ((Int × List Int) ⊕ ((List Int) ⊕ ((Int × List Int) ⊕ ((List Int) ⊕ (S_Filter × Int))))) :=
 cond (decide (j4.1 < (r3.length : Int))) (
 gd ((0 : Int) ≤ j4.1 ∧ j4.1 < (r3.length : Int)) (
 gd ((0 : Int) ≤ (IntKind.wrap .i64 (Int.tdiv (r3.getD (Int.toNat j4.1) default) 64)) ∧ (IntKind.wrap .i64 (Int.tdiv (r3.getD (Int.toNat j4.1) default) 64)) < (j4.2.length : Int)) (
 gd ((0 : Int) ≤ (Int.tmod (r3.getD (Int.toNat j4.1) default) 64)) (
 bd (j4.2.set (Int.toNat (IntKind.wrap .i64 (Int.tdiv (r3.getD (Int.toNat j4.1) default) 64))) (IntKind.wrap .u64 ((BitVec.ofInt 64 (j4.2.getD (Int.toNat (IntKind.wrap .i64 (Int.tdiv (r3.getD (Int.toNat j4.1) default) 64))) default) ||| BitVec.ofInt 64 (IntKind.wrap .u64 (1 * 2 ^ (min (Int.toNat (Int.tmod (r3.getD (Int.toNat j4.1) default) 64)) 64)))).toNat : Int))) fun x7 =>
 some (.inl ((IntKind.wrap .i64 (j4.1 + 1)), x7)))))) (
 some (.inr (.inl j4.2)))
noncomputable def L_r26_Build_2 (p0 : List ByteArray) (r1 : S_Filter × Int) (j2 : Int × List Int) : Option ((Int × List Int) ⊕ ((List Int) ⊕ (S_Filter × Int))) :=
 cond (decide (j2.1 < (p0.length : Int))) (
 bindE (σ := (List Int)) (
 gd ((0 : Int) ≤ j2.1 ∧ j2.1 < (p0.length : Int)) (
 bnd (F_r26_Positions ({ r1.1 with Bits := j2.2 }) (p0.getD (Int.toNat j2.1) default)) fun r3 =>
 loop (L_r26_Build_4 r3) (0, j2.2))) fun j3 =>
 some (.inl ((IntKind.wrap .i64 (j2.1 + 1)), j3))) (
 some (.inr (.inl j2.2)))
noncomputable def F_r26_Build (p0 : List ByteArray) (p1 : Int) : Option (S_Filter × Int) :=
 cond (cond (decide (p1 < 1)) true (decide (p1 > 64))) (
 some ((⟨(0 : Int), []⟩ : S_Filter), 2)) (
 bnd (F_r26_New (if (IntKind.wrap .i64 ((if (p0.length : Int) > 1 then (p0.length : Int) else 1) * p1)) < 65536 then (IntKind.wrap .i64 ((if (p0.length : Int) > 1 then (p0.length : Int) else 1) * p1)) else 65536) 3) fun r1 =>
 bindE (σ := (List Int)) (
 loop (L_r26_Build_2 p0 r1) (0, r1.1.Bits)) fun j1 =>
 some ({ r1.1 with Bits := j1 }, 0))
noncomputable def z_r26_Build (p0 : List ByteArray) (p1 : Int) : Cert Tryz.prog 64 (S_Filter × Int) :=
 .r 2 2 100 [0, 1, 4] [100] <|
 .rp 5 6 101 [0, 1, 4, 16] [100] (some ((((!(decide (p1 < 1))) = true → (!(decide (p1 < 1))) = true) ∧ ((decide (p1 < 1)) = false → (!(decide (p1 < 1))) = true)))) (ob1 (⟨fun h => h, (fun h => by rw [h]; rfl)⟩)) <|
 .cond 2 (
 .r 2 3 101 [4, 5] [100] <|
 .s (.impB 100 166 ((bS_Filter (⟨(0 : Int), []⟩ : S_Filter)).set 1 (.d (.v (.slice none 0 0)))) (bS_Filter (⟨(0 : Int), []⟩ : S_Filter)) (CsImp.cons CImp.same (CsImp.cons CImp.nil CsImp.nil))) <|
 .lf 3 [4, 5] [100] ((⟨(0 : Int), []⟩ : S_Filter), 2)
 ) (
 .r 4 6 101 [0, 4, 24] [100] <|
 .bind (F_r26_New (if (IntKind.wrap .i64 ((if (p0.length : Int) > 1 then (p0.length : Int) else 1) * p1)) < 65536 then (IntKind.wrap .i64 ((if (p0.length : Int) > 1 then (p0.length : Int) else 1) * p1)) else 65536) 3) fun r1 hr1 =>
 .s (.call [] [(910, 101)] (c_r26_New hr1)) <|
 .r 0 6 102 [0, 4, 6] [100, 101, 102] <|
 .sq 2 (fun j1 : (List Int) => ⟨[(4, .c (.np 100 2 0 0)), (6, .c (.np 102 2 0 0))], [(100, .box 166 ((bS_Filter (⟨(0 : Int), []⟩ : S_Filter)).set 1 (.d (.v (.slice none 0 0))))), (101, .rows 97 1 j1.length (gT (fInt .u64) j1)), (102, .box 166 ((bS_Filter r1.1).set 1 (.nm 101)))]⟩) (
 .r 2 1 103 [0, 4, 6, 8] [100, 101, 102] <|
 .s (.cn [0, 4, 6, 8] [100, 101, 102]) <|
 .lp 3 (fun j2 : (Int × List Int) => ⟨[(0, .c (.d (.ro 1 p0.length (gT fStr p0)))), (4, .c (.np 100 2 0 0)), (6, .c (.np 102 2 0 0)), (8, xi j2.1)], [(100, .box 166 ((bS_Filter (⟨(0 : Int), []⟩ : S_Filter)).set 1 (.d (.v (.slice none 0 0))))), (101, .rows 97 1 j2.2.length (gT (fInt .u64) j2.2)), (102, .box 166 ((bS_Filter r1.1).set 1 (.nm 101)))]⟩) (0, r1.1.Bits) fun j2 =>
 .r 3 4 103 [0, 4, 6, 8, 31] [100, 101, 102] <|
 .cond 2 (
 .sq 2 (fun j3 : (List Int) => ⟨[(0, .c (.d (.ro 1 p0.length (gT fStr p0)))), (4, .c (.np 100 2 0 0)), (6, .c (.np 102 2 0 0)), (8, xi j2.1)], [(100, .box 166 ((bS_Filter (⟨(0 : Int), []⟩ : S_Filter)).set 1 (.d (.v (.slice none 0 0))))), (101, .rows 97 1 j3.length (gT (fInt .u64) j3)), (102, .box 166 ((bS_Filter r1.1).set 1 (.nm 101)))]⟩) (
 .s (.cn [0, 4, 6, 8] [100, 101, 102]) <|
 .gd ((0 : Int) ≤ j2.1 ∧ j2.1 < (p0.length : Int)) fun g2 =>
 .bind (F_r26_Positions ({ r1.1 with Bits := j2.2 }) (p0.getD (Int.toNat j2.1) default)) fun r3 hr3 =>
 .m 2 <|
 .s (.dr [.call 5 [(60, 101)] [(900, 103)] (Spec.lend 60 97 1 j2.2.length (gT (fInt .u64) j2.2) _ (c_r26_Positions hr3) (args := [.agg ((bS_Filter ({ r1.1 with Bits := j2.2 })).set 1 (.nm 60)), xs (p0.getD (Int.toNat j2.1) default)]) rfl rfl rfl (by repeat (first | trivial | refine ⟨fun _ _ => ⟨_, rfl⟩, ?_⟩)))] ([(3, some (((0 : Int) ≤ j2.1 ∧ j2.1 < (p0.length : Int))))]) (obsAll.cons (ob1 g2) obsAll.nil) [0, 4, 6, 8, 9] [100, 101, 102, 103]) <|
 .r 4 1 104 [0, 4, 6, 8, 9, 10] [100, 101, 102, 103] <|
 .s (.cn [0, 4, 6, 8, 9, 10] [100, 101, 102, 103]) <|
 .lp 3 (fun j4 : (Int × List Int) => ⟨[(0, .c (.d (.ro 1 p0.length (gT fStr p0)))), (4, .c (.np 100 2 0 0)), (6, .c (.np 102 2 0 0)), (8, xi j2.1), (9, .c (.nm 103)), (10, xi j4.1)], [(100, .box 166 ((bS_Filter (⟨(0 : Int), []⟩ : S_Filter)).set 1 (.d (.v (.slice none 0 0))))), (101, .rows 97 1 j4.2.length (gT (fInt .u64) j4.2)), (102, .box 166 ((bS_Filter r1.1).set 1 (.nm 101))), (103, .rows 3 1 r3.length (gT (fInt .i64) r3))]⟩) (0, j2.2) fun j4 =>
 .r 3 4 104 [0, 4, 6, 8, 9, 10, 43] [100, 101, 102, 103] <|
 .cond 2 (
 .s (.cn [0, 4, 6, 8, 9, 10] [100, 101, 102, 103]) <|
 .gd ((0 : Int) ≤ j4.1 ∧ j4.1 < (r3.length : Int)) fun g4 =>
 .gd ((0 : Int) ≤ (IntKind.wrap .i64 (Int.tdiv (r3.getD (Int.toNat j4.1) default) 64)) ∧ (IntKind.wrap .i64 (Int.tdiv (r3.getD (Int.toNat j4.1) default) 64)) < (j4.2.length : Int)) fun g5 =>
 .gd ((0 : Int) ≤ (Int.tmod (r3.getD (Int.toNat j4.1) default) 64)) fun g6 =>
 .m 4 <|
 .s (.dr [.stR (fInt .u64) j4.2 17 101 97 1 (Int.toNat (IntKind.wrap .i64 (Int.tdiv (r3.getD (Int.toNat j4.1) default) 64))) 0 (IntKind.wrap .u64 ((BitVec.ofInt 64 (j4.2.getD (Int.toNat (IntKind.wrap .i64 (Int.tdiv (r3.getD (Int.toNat j4.1) default) 64))) default) ||| BitVec.ofInt 64 (IntKind.wrap .u64 (1 * 2 ^ (min (Int.toNat (Int.tmod (r3.getD (Int.toNat j4.1) default) 64)) 64)))).toNat : Int)) (tn g5)] (let u2 := (((0 : Int) ≤ j4.1 ∧ j4.1 < (r3.length : Int))); let u4 := (r3.getD (Int.toNat j4.1) default); let u1 := (IntKind.wrap .i64 (Int.tdiv u4 64)); let u3 := (((0 : Int) ≤ u1 ∧ u1 < (j4.2.length : Int))); [(4, some u2), (5, some (((Int.toNat j4.1) < r3.length))), (6, some (((64 : Int) ≠ 0))), (7, some u3), (8, some (((Int.toNat u1) < j4.2.length))), (11, some u2), (12, some (((Int.toNat j4.1) < r3.length))), (13, some (((64 : Int) ≠ 0))), (14, some (((0 : Int) ≤ (Int.tmod u4 64)))), (16, some u3)]) (obsAll.cons (ob1 g4) (obsAll.cons (ob1 (tn g4)) (obsAll.cons (ob1 (by decide)) (obsAll.cons (ob1 g5) (obsAll.cons (ob1 (tn g5)) (obsAll.cons (ob1 g4) (obsAll.cons (ob1 (tn g4)) (obsAll.cons (ob1 (by decide)) (obsAll.cons (ob1 g6) (obsAll.cons (ob1 g5) obsAll.nil)))))))))) [0, 4, 6, 8, 9, 10] [100, 101, 102, 103]) <|
 .bh ((j4.2.set (Int.toNat (IntKind.wrap .i64 (Int.tdiv (r3.getD (Int.toNat j4.1) default) 64))) (IntKind.wrap .u64 ((BitVec.ofInt 64 (j4.2.getD (Int.toNat (IntKind.wrap .i64 (Int.tdiv (r3.getD (Int.toNat j4.1) default) 64))) default) ||| BitVec.ofInt 64 (IntKind.wrap .u64 (1 * 2 ^ (min (Int.toNat (Int.tmod (r3.getD (Int.toNat j4.1) default) 64)) 64)))).toNat : Int)))) 101 (fun x7 => .rows 97 1 x7.length (gT (fInt .u64) x7)) fun x7 =>
 .r 4 3 104 [0, 4, 6, 8, 9, 10] [100, 101, 102, 103] <|
 .lf 1 [0, 4, 6, 8, 9, 10] [100, 101, 102, 103] (.inl ((IntKind.wrap .i64 (j4.1 + 1)), x7))
 ) (
 .lf 1 [0, 4, 6, 8] [100, 101, 102] (.inr (.inl j4.2))
 )
 ) fun j3 =>
 .r 1 3 104 [0, 4, 6, 8] [100, 101, 102] <|
 .lf 1 [0, 4, 6, 8] [100, 101, 102] (.inl ((IntKind.wrap .i64 (j2.1 + 1)), j3))
 ) (
 .lf 1 [4, 6] [100, 101, 102] (.inr (.inl j2.2))
 )
 ) fun j1 =>
 .r 2 3 104 [4, 5] [100, 101] <|
 .s (.fz 101) <|
 .lf 3 [4, 5] [100] ({ r1.1 with Bits := j1 }, 0)
 )
/-- logtide/logtideref26.Build -/
theorem c_r26_Build {p0 : List ByteArray} {p1 : Int} {r : S_Filter × Int} (h : F_r26_Build p0 p1 = some r) : Spec Tryz.prog 108 [.c (.d (.ro 1 p0.length (gT fStr p0))), xi p1] [] (.tup [.agg (bS_Filter r.1), xi r.2]) [] :=
  Cert.spec [] (fun r : S_Filter × Int => .tup [.agg (bS_Filter r.1), xi r.2]) (fun r => []) (z_r26_Build p0 p1) Tryz.func108 rfl (by kernel_rfl) h
noncomputable def F_r26_Check (p0 : S_Filter) : Option (Int) :=
 bd (cond (cond (cond (decide (p0.Hashes < 1)) true (decide (p0.Hashes > 8))) true (decide ((p0.Bits.length : Int) < 1))) true (decide ((p0.Bits.length : Int) > 1024))) fun x1 =>
 cond x1 (
 some 2) (
 some 0)
noncomputable def z_r26_Check (p0 : S_Filter) : Cert Tryz.prog 23 (Int) :=
 .r 2 2 100 [1] [100] <|
 .rp 5 20 101 [22] [] (let u3 := (decide (p0.Hashes < 1)); let u1 := (cond u3 true (decide (p0.Hashes > 8))); let u2 := (cond u1 true (decide ((p0.Bits.length : Int) < 1))); let u4 := ((!u1) = true → (!u1) = true); let u5 := ((!u2) = true → (!u2) = true); some ((((!u3) = true → (!u3) = true) ∧ (((!u3) = true → (!u3) = true) ∧ ((u3 = false → (!u3) = true) ∧ (u4 ∧ (u4 ∧ (u4 ∧ ((u1 = false → (!u1) = true) ∧ (u5 ∧ (u5 ∧ (u5 ∧ (u2 = false → (!u2) = true))))))))))))) (ob1 (⟨fun h => h, ⟨fun h => h, ⟨(fun h => by rw [h]; rfl), ⟨fun h => h, ⟨fun h => h, ⟨fun h => h, ⟨(fun h => by rw [h]; rfl), ⟨fun h => h, ⟨fun h => h, ⟨fun h => h, (fun h => by rw [h]; rfl)⟩⟩⟩⟩⟩⟩⟩⟩⟩⟩)) <|
 .bs ((cond (cond (cond (decide (p0.Hashes < 1)) true (decide (p0.Hashes > 8))) true (decide ((p0.Bits.length : Int) < 1))) true (decide ((p0.Bits.length : Int) > 1024)))) [22] xb fun x1 =>
 .cond 2 (
 .r 2 1 101 [2] [] <|
 .lf 3 [2] [] 2
 ) (
 .r 4 1 101 [2] [] <|
 .lf 3 [2] [] 0
 )
/-- logtide/logtideref26.Check -/
theorem c_r26_Check {p0 : S_Filter} {r : Int} (h : F_r26_Check p0 = some r) : Spec Tryz.prog 124 [.agg (bS_Filter p0)] [] (xi r) [] :=
  Cert.spec [] (fun r : Int => xi r) (fun r => []) (z_r26_Check p0) Tryz.func124 rfl (by kernel_rfl) h
end Go.Abs
