/- DERIVED. Printed by gen.py of this repo. -/
import Derived.Test.YtlhiaclmbegaiaaGreatF3
set_option linter.unusedVariables false
set_option linter.unusedSimpArgs false
set_option maxRecDepth 100000
namespace Go.Abs
open Go.Proofs
noncomputable def L_r24_EncodeAs_5 (p1 : List Int) (j5 : Int × Int) : Option ((Int × Int) ⊕ ((Int × Int) ⊕ ((Int × List Int) ⊕ ((Int × List Int) ⊕ ((List Int) ⊕ (List Int × Int)))))) :=
 gd ((decide ((IntKind.wrap .i64 (j5.1 + 1)) < (p1.length : Int))) = true → (0 : Int) ≤ (IntKind.wrap .i64 (j5.1 + 1)) ∧ (IntKind.wrap .i64 (j5.1 + 1)) < (p1.length : Int)) (
 gd ((decide ((IntKind.wrap .i64 (j5.1 + 1)) < (p1.length : Int))) = true → (0 : Int) ≤ j5.1 ∧ j5.1 < (p1.length : Int)) (
 bd (cond (decide ((IntKind.wrap .i64 (j5.1 + 1)) < (p1.length : Int))) ((p1.getD (Int.toNat (IntKind.wrap .i64 (j5.1 + 1))) default) == (p1.getD (Int.toNat j5.1) default)) false) fun x5 =>
 cond x5 (
 some (.inl ((IntKind.wrap .i64 (j5.1 + 1)), (IntKind.wrap .i64 (j5.2 + 1))))) (
 some (.inr (.inl (j5.1, j5.2))))))
noncomputable def L_r24_EncodeAs_2 (p1 : List Int) (p0 : Int) (j2 : Int × List Int) : Option ((Int × List Int) ⊕ ((List Int) ⊕ (List Int × Int))) :=
 cond (decide (j2.1 < (p1.length : Int))) (
 bindE (σ := (Int × List Int)) (
 cond (p0 == 2) (
 bindE (σ := (Int × Int)) (
 loop (L_r24_EncodeAs_5 p1) (j2.1, 1)) fun j4 =>
 gd ((0 : Int) ≤ j4.1 ∧ j4.1 < (p1.length : Int)) (
 bnd (F_r24_PutInt j2.2 (p1.getD (Int.toNat j4.1) default)) fun r7 =>
 bnd (F_r23_PutVarint r7 (IntKind.wrap .u64 (j4.2))) fun r8 =>
 some (.inl (j4.1, r8)))) (
 cond (cond (p0 == 1) (decide (j2.1 > 0)) false) (
 gd ((0 : Int) ≤ j2.1 ∧ j2.1 < (p1.length : Int)) (
 gd ((0 : Int) ≤ (IntKind.wrap .i64 (j2.1 - 1)) ∧ (IntKind.wrap .i64 (j2.1 - 1)) < (p1.length : Int)) (
 bnd (F_r24_PutInt j2.2 (IntKind.wrap .i64 ((p1.getD (Int.toNat j2.1) default) - (p1.getD (Int.toNat (IntKind.wrap .i64 (j2.1 - 1))) default)))) fun r11 =>
 some (.inl (j2.1, r11))))) (
 gd ((0 : Int) ≤ j2.1 ∧ j2.1 < (p1.length : Int)) (
 bnd (F_r24_PutInt j2.2 (p1.getD (Int.toNat j2.1) default)) fun r13 =>
 some (.inl (j2.1, r13)))))) fun j3 =>
 some (.inl ((IntKind.wrap .i64 (j3.1 + 1)), j3.2))) (
 some (.inr (.inl j2.2)))
noncomputable def F_r24_EncodeAs (p0 : Int) (p1 : List Int) : Option (List Int × Int) :=
 cond (cond (decide (p0 < 0)) true (decide (p0 > 3))) (
 some (([] : List Int), 2)) (
 cond (decide ((p1.length : Int) > 16384)) (
 some (([] : List Int), 4)) (
 bnd (F_r23_PutVarint ([(IntKind.wrap .u8 (p0))] : List Int) (IntKind.wrap .u64 ((p1.length : Int)))) fun r1 =>
 cond (p0 == 3) (
 bnd (F_r24_pack r1 p1) fun r2 =>
 some (r2, 0)) (
 bindE (σ := (List Int)) (
 loop (L_r24_EncodeAs_2 p1 p0) (0, r1)) fun j1 =>
 some (j1, 0))))
noncomputable def z_r24_EncodeAs (p0 : Int) (p1 : List Int) : Cert Tryz.prog 95 (List Int × Int) :=
 .r 2 2 100 [0, 1] [] <|
 .rp 5 6 100 [0, 1, 14] [] (some ((((!(decide (p0 < 0))) = true → (!(decide (p0 < 0))) = true) ∧ ((decide (p0 < 0)) = false → (!(decide (p0 < 0))) = true)))) (ob1 (⟨fun h => h, (fun h => by rw [h]; rfl)⟩)) <|
 .cond 2 (
 .r 2 2 100 [4, 5] [] <|
 .s (.own 4 100 5 1 (gT (fInt .u8) [])) <|
 .s (.rn 100 900) <|
 .lf 3 [4, 5] [900] (([] : List Int), 2)
 ) (
 .r 5 3 101 [0, 1, 17] [] <|
 .cond 2 (
 .r 2 2 101 [4, 5] [] <|
 .s (.own 4 101 5 1 (gT (fInt .u8) [])) <|
 .s (.rn 101 900) <|
 .lf 3 [4, 5] [900] (([] : List Int), 4)
 ) (
 .r 4 2 102 [0, 1, 19] [] <|
 .s (.buildO (fInt .u8) ([(IntKind.wrap .u8 (p0))] : List Int) 5 1 102) <|
 .r 0 3 103 [0, 1, 20, 23] [102] <|
 .bind (F_r23_PutVarint ([(IntKind.wrap .u8 (p0))] : List Int) (IntKind.wrap .u64 ((p1.length : Int)))) fun r1 hr1 =>
 .s (.call [(1, 102)] [(900, 103)] (c_r23_PutVarint hr1)) <|
 .r 0 1 104 [0, 1, 6] [103] <|
 .r 5 2 104 [0, 1, 6, 26] [103] <|
 .cond 2 (
 .r 2 2 104 [27, 28] [103] <|
 .bind (F_r24_pack r1 p1) fun r2 hr2 =>
 .s (.call [(1, 103)] [(900, 104)] (c_r24_pack hr2)) <|
 .r 0 2 105 [4, 5] [104] <|
 .s (.rn 104 900) <|
 .lf 3 [4, 5] [900] (r2, 0)
 ) (
 .sq 2 (fun j1 : (List Int) => ⟨[(6, .c (.nm 103))], [(103, .rows 5 1 j1.length (gT (fInt .u8) j1))]⟩) (
 .r 2 1 105 [0, 1, 6, 7] [103] <|
 .s (.cn [0, 1, 6, 7] [103]) <|
 .lp 3 (fun j2 : (Int × List Int) => ⟨[(0, xi p0), (1, .c (.d (.ro 1 p1.length (gT (fInt .i64) p1)))), (6, .c (.nm 103)), (7, xi j2.1)], [(103, .rows 5 1 j2.2.length (gT (fInt .u8) j2.2))]⟩) (0, r1) fun j2 =>
 .r 3 4 105 [0, 1, 6, 7, 33] [103] <|
 .cond 2 (
 .sq 2 (fun j3 : (Int × List Int) => ⟨[(0, xi p0), (1, .c (.d (.ro 1 p1.length (gT (fInt .i64) p1)))), (6, .c (.nm 106)), (7, xi j3.1)], [(106, .rows 5 1 j3.2.length (gT (fInt .u8) j3.2))]⟩) (
 .r 4 3 105 [0, 1, 6, 7, 42] [103] <|
 .cond 2 (
 .r 2 1 105 [0, 1, 6, 7, 8] [103] <|
 .sq 2 (fun j4 : (Int × Int) => ⟨[(0, xi p0), (1, .c (.d (.ro 1 p1.length (gT (fInt .i64) p1)))), (6, .c (.nm 103)), (7, xi j4.1), (8, xi j4.2)], [(103, .rows 5 1 j2.2.length (gT (fInt .u8) j2.2))]⟩) (
 .s (.cn [0, 1, 6, 7, 8] [103]) <|
 .lp 1 (fun j5 : (Int × Int) => ⟨[(0, xi p0), (1, .c (.d (.ro 1 p1.length (gT (fInt .i64) p1)))), (6, .c (.nm 103)), (7, xi j5.1), (8, xi j5.2)], [(103, .rows 5 1 j2.2.length (gT (fInt .u8) j2.2))]⟩) (j2.1, 1) fun j5 =>
 .s (.cn [0, 1, 6, 7, 8] [103]) <|
 .gd ((decide ((IntKind.wrap .i64 (j5.1 + 1)) < (p1.length : Int))) = true → (0 : Int) ≤ (IntKind.wrap .i64 (j5.1 + 1)) ∧ (IntKind.wrap .i64 (j5.1 + 1)) < (p1.length : Int)) fun g3 =>
 .gd ((decide ((IntKind.wrap .i64 (j5.1 + 1)) < (p1.length : Int))) = true → (0 : Int) ≤ j5.1 ∧ j5.1 < (p1.length : Int)) fun g4 =>
 .m 2 <|
 .s (.dr [] (let u3 := (IntKind.wrap .i64 (j5.1 + 1)); let u2 := (decide (u3 < (p1.length : Int))); let u1 := (u2 = true → u2 = true); [(8, some (u1)), (9, some (((u1 ∧ u1) ∧ (u2 = true → (0 : Int) ≤ u3 ∧ u3 < (p1.length : Int))))), (10, some (u1)), (13, some (((u1 ∧ u1) ∧ (u2 = true → (0 : Int) ≤ j5.1 ∧ j5.1 < (p1.length : Int))))), (14, some (u1)), (15, some ((u1 ∧ u1))), (16, some (u1))]) (obsAll.cons (ob1 (fun h => h)) (obsAll.cons (ob1 (⟨⟨fun h => h, fun h => h⟩, g3⟩)) (obsAll.cons (ob1 (fun h => h)) (obsAll.cons (ob1 (⟨⟨fun h => h, fun h => h⟩, g4⟩)) (obsAll.cons (ob1 (fun h => h)) (obsAll.cons (ob1 (⟨fun h => h, fun h => h⟩)) (obsAll.cons (ob1 (fun h => h)) obsAll.nil))))))) [0, 1, 6, 7, 8, 61] [103]) <|
 .bs ((cond (decide ((IntKind.wrap .i64 (j5.1 + 1)) < (p1.length : Int))) ((p1.getD (Int.toNat (IntKind.wrap .i64 (j5.1 + 1))) default) == (p1.getD (Int.toNat j5.1) default)) false)) [61] xb fun x5 =>
 .cond 2 (
 .r 5 3 105 [0, 1, 6, 7, 8] [103] <|
 .r 3 3 105 [0, 1, 6, 7, 8] [103] <|
 .lf 1 [0, 1, 6, 7, 8] [103] (.inl ((IntKind.wrap .i64 (j5.1 + 1)), (IntKind.wrap .i64 (j5.2 + 1))))
 ) (
 .lf 1 [0, 1, 6, 7, 8] [103] (.inr (.inl (j5.1, j5.2)))
 )
 ) fun j4 =>
 .gd ((0 : Int) ≤ j4.1 ∧ j4.1 < (p1.length : Int)) fun g6 =>
 .rp 1 5 105 [0, 1, 7, 8, 66, 70] [103] (some (((0 : Int) ≤ j4.1 ∧ j4.1 < (p1.length : Int)))) (ob1 g6) <|
 .bind (F_r24_PutInt j2.2 (p1.getD (Int.toNat j4.1) default)) fun r7 hr7 =>
 .s (.call [(1, 103)] [(900, 105)] (c_r24_PutInt hr7)) <|
 .r 0 2 106 [0, 1, 7, 71, 73] [105] <|
 .bind (F_r23_PutVarint r7 (IntKind.wrap .u64 (j4.2))) fun r8 hr8 =>
 .s (.call [(1, 105)] [(900, 106)] (c_r23_PutVarint hr8)) <|
 .r 0 1 107 [0, 1, 6, 7] [106] <|
 .lf 1 [0, 1, 6, 7] [106] (.inl (j4.1, r8))
 ) (
 .rp 2 7 107 [0, 1, 6, 7, 75] [103] (some ((((p0 == 1) = true → (p0 == 1) = true) ∧ ((p0 == 1) = true → (p0 == 1) = true)))) (ob1 (⟨fun h => h, (fun h => h)⟩)) <|
 .cond 2 (
 .s (.cn [0, 1, 6, 7] [103]) <|
 .gd ((0 : Int) ≤ j2.1 ∧ j2.1 < (p1.length : Int)) fun g9 =>
 .gd ((0 : Int) ≤ (IntKind.wrap .i64 (j2.1 - 1)) ∧ (IntKind.wrap .i64 (j2.1 - 1)) < (p1.length : Int)) fun g10 =>
 .bind (F_r24_PutInt j2.2 (IntKind.wrap .i64 ((p1.getD (Int.toNat j2.1) default) - (p1.getD (Int.toNat (IntKind.wrap .i64 (j2.1 - 1))) default)))) fun r11 hr11 =>
 .s (.dr [.call 11 [(1, 103)] [(900, 107)] (c_r24_PutInt hr11)] ([(3, some (((0 : Int) ≤ j2.1 ∧ j2.1 < (p1.length : Int)))), (8, some (((0 : Int) ≤ (IntKind.wrap .i64 (j2.1 - 1)) ∧ (IntKind.wrap .i64 (j2.1 - 1)) < (p1.length : Int))))]) (obsAll.cons (ob1 g9) (obsAll.cons (ob1 g10) obsAll.nil)) [0, 1, 6, 7] [107]) <|
 .s (.cn [0, 1, 6, 7] [107]) <|
 .s (.rn 107 106) <|
 .lf 1 [0, 1, 6, 7] [106] (.inl (j2.1, r11))
 ) (
 .gd ((0 : Int) ≤ j2.1 ∧ j2.1 < (p1.length : Int)) fun g12 =>
 .rp 1 5 108 [0, 1, 7, 36, 40] [103] (some (((0 : Int) ≤ j2.1 ∧ j2.1 < (p1.length : Int)))) (ob1 g12) <|
 .bind (F_r24_PutInt j2.2 (p1.getD (Int.toNat j2.1) default)) fun r13 hr13 =>
 .s (.call [(1, 103)] [(900, 108)] (c_r24_PutInt hr13)) <|
 .r 0 1 109 [0, 1, 6, 7] [108] <|
 .s (.cn [0, 1, 6, 7] [108]) <|
 .s (.rn 108 106) <|
 .lf 1 [0, 1, 6, 7] [106] (.inl (j2.1, r13))
 )
 )
 ) fun j3 =>
 .r 1 3 109 [0, 1, 6, 7] [106] <|
 .s (.cn [0, 1, 6, 7] [106]) <|
 .s (.rn 106 103) <|
 .lf 1 [0, 1, 6, 7] [103] (.inl ((IntKind.wrap .i64 (j3.1 + 1)), j3.2))
 ) (
 .lf 1 [6] [103] (.inr (.inl j2.2))
 )
 ) fun j1 =>
 .r 2 3 109 [4, 5] [103] <|
 .s (.rn 103 900) <|
 .lf 3 [4, 5] [900] (j1, 0)
 )
 )
 )
/-- logtide/logtideref24.EncodeAs -/
theorem c_r24_EncodeAs {p0 : Int} {p1 : List Int} {r : List Int × Int} (h : F_r24_EncodeAs p0 p1 = some r) : Spec Tryz.prog 125 [xi p0, .c (.d (.ro 1 p1.length (gT (fInt .i64) p1)))] [] (.tup [.c (.nm 900), xi r.2]) [(900, .rows 5 1 r.1.length (gT (fInt .u8) r.1))] :=
  Cert.spec [900] (fun r : List Int × Int => .tup [.c (.nm 900), xi r.2]) (fun r => [(900, .rows 5 1 r.1.length (gT (fInt .u8) r.1))]) (z_r24_EncodeAs p0 p1) Tryz.func125 rfl (by kernel_rfl) h
noncomputable def L_r24_Encode_2 (p0 : List Int) (j2 : Int × List Int) : Option ((Int × List Int) ⊕ ((List Int) ⊕ (List Int × Int))) :=
 cond (decide (j2.1 ≤ 3)) (
 bindE (σ := (List Int)) (
 bnd (F_r24_EncodeAs j2.1 p0) fun r2 =>
 cond (decide ((r2.1.length : Int) < (j2.2.length : Int))) (
 some (.inl r2.1)) (
 some (.inl j2.2))) fun j3 =>
 some (.inl ((IntKind.wrap .i64 (j2.1 + 1)), j3))) (
 some (.inr (.inl j2.2)))
noncomputable def F_r24_Encode (p0 : List Int) : Option (List Int × Int) :=
 bnd (F_r24_EncodeAs 0 p0) fun r1 =>
 cond (r1.2 != 0) (
 some (([] : List Int), r1.2)) (
 bindE (σ := (List Int)) (
 loop (L_r24_Encode_2 p0) (1, r1.1)) fun j1 =>
 some (j1, 0))
noncomputable def z_r24_Encode (p0 : List Int) : Cert Tryz.prog 34 (List Int × Int) :=
 .r 2 2 100 [0] [] <|
 .r 4 1 100 [0, 10] [] <|
 .bind (F_r24_EncodeAs 0 p0) fun r1 hr1 =>
 .s (.call [] [(900, 100)] (c_r24_EncodeAs hr1)) <|
 .r 0 5 101 [0, 4, 5] [100] <|
 .r 5 2 101 [0, 4, 5, 15] [100] <|
 .cond 2 (
 .r 2 3 101 [2, 3] [] <|
 .s (.own 2 101 5 1 (gT (fInt .u8) [])) <|
 .s (.rn 101 900) <|
 .lf 3 [2, 3] [900] (([] : List Int), r1.2)
 ) (
 .sq 2 (fun j1 : (List Int) => ⟨[(4, .c (.nm 100))], [(100, .rows 5 1 j1.length (gT (fInt .u8) j1))]⟩) (
 .r 2 1 102 [0, 4, 6] [100] <|
 .s (.cn [0, 4, 6] [100]) <|
 .lp 3 (fun j2 : (Int × List Int) => ⟨[(0, .c (.d (.ro 1 p0.length (gT (fInt .i64) p0)))), (4, .c (.nm 100)), (6, xi j2.1)], [(100, .rows 5 1 j2.2.length (gT (fInt .u8) j2.2))]⟩) (1, r1.1) fun j2 =>
 .r 3 2 102 [0, 4, 6, 18] [100] <|
 .cond 2 (
 .sq 2 (fun j3 : (List Int) => ⟨[(0, .c (.d (.ro 1 p0.length (gT (fInt .i64) p0)))), (4, .c (.nm 102)), (6, xi j2.1)], [(102, .rows 5 1 j3.length (gT (fInt .u8) j3))]⟩) (
 .r 3 2 102 [0, 4, 6, 22, 23] [100] <|
 .bind (F_r24_EncodeAs j2.1 p0) fun r2 hr2 =>
 .s (.call [] [(900, 102)] (c_r24_EncodeAs hr2)) <|
 .r 0 5 103 [0, 4, 6, 7] [100, 102] <|
 .r 4 5 103 [0, 4, 6, 7, 31] [100, 102] <|
 .cond 2 (
 .r 1 2 103 [0, 4, 6] [102] <|
 .lf 1 [0, 4, 6] [102] (.inl r2.1)
 ) (
 .s (.cn [0, 4, 6] [100]) <|
 .s (.rn 100 102) <|
 .lf 1 [0, 4, 6] [102] (.inl j2.2)
 )
 ) fun j3 =>
 .r 1 3 103 [0, 4, 6] [102] <|
 .s (.cn [0, 4, 6] [102]) <|
 .s (.rn 102 100) <|
 .lf 1 [0, 4, 6] [100] (.inl ((IntKind.wrap .i64 (j2.1 + 1)), j3))
 ) (
 .lf 1 [4] [100] (.inr (.inl j2.2))
 )
 ) fun j1 =>
 .r 2 3 103 [2, 3] [100] <|
 .s (.rn 100 900) <|
 .lf 3 [2, 3] [900] (j1, 0)
 )
/-- logtide/logtideref24.Encode -/
theorem c_r24_Encode {p0 : List Int} {r : List Int × Int} (h : F_r24_Encode p0 = some r) : Spec Tryz.prog 110 [.c (.d (.ro 1 p0.length (gT (fInt .i64) p0)))] [] (.tup [.c (.nm 900), xi r.2]) [(900, .rows 5 1 r.1.length (gT (fInt .u8) r.1))] :=
  Cert.spec [900] (fun r : List Int × Int => .tup [.c (.nm 900), xi r.2]) (fun r => [(900, .rows 5 1 r.1.length (gT (fInt .u8) r.1))]) (z_r24_Encode p0) Tryz.func110 rfl (by kernel_rfl) h
noncomputable def F_r27_column (p0 : List Int) : Option (List Int) :=
 bnd (F_r24_Encode p0) fun r1 =>
 some r1.1
noncomputable def z_r27_column (p0 : List Int) : Cert Tryz.prog 11 (List Int) :=
 .r 2 1 100 [0] [] <|
 .r 4 1 100 [6] [] <|
 .bind (F_r24_Encode p0) fun r1 hr1 =>
 .s (.call [] [(900, 100)] (c_r24_Encode hr1)) <|
 .r 0 5 101 [3] [100] <|
 .r 4 2 101 [2] [100] <|
 .s (.rn 100 900) <|
 .lf 3 [2] [900] r1.1
/-- logtide/logtideref27.column -/
theorem c_r27_column {p0 : List Int} {r : List Int} (h : F_r27_column p0 = some r) : Spec Tryz.prog 78 [.c (.d (.ro 1 p0.length (gT (fInt .i64) p0)))] [] (.c (.nm 900)) [(900, .rows 5 1 r.length (gT (fInt .u8) r))] :=
  Cert.spec [900] (fun r : List Int => .c (.nm 900)) (fun r => [(900, .rows 5 1 r.length (gT (fInt .u8) r))]) (z_r27_column p0) Tryz.func78 rfl (by kernel_rfl) h
noncomputable def L_r23_Index_2 (p0 : List ByteArray) (p1 : ByteArray) (j2 : Int × Int) : Option ((Int × Int) ⊕ ((Int) ⊕ (Int × Bool))) :=
 cond (decide (j2.1 < j2.2)) (
 gd ((0 : Int) ≤ (IntKind.wrap .i64 (Int.tdiv (IntKind.wrap .i64 (j2.1 + j2.2)) 2)) ∧ (IntKind.wrap .i64 (Int.tdiv (IntKind.wrap .i64 (j2.1 + j2.2)) 2)) < (p0.length : Int)) (
 bd (Op.bytesLess (p0.getD (Int.toNat (IntKind.wrap .i64 (Int.tdiv (IntKind.wrap .i64 (j2.1 + j2.2)) 2))) default).toList p1.toList) fun x2 =>
 cond x2 (
 bd (IntKind.wrap .i64 ((IntKind.wrap .i64 (Int.tdiv (IntKind.wrap .i64 (j2.1 + j2.2)) 2)) + 1)) fun x3 =>
 some (.inl (x3, j2.2))) (
 some (.inl (j2.1, (IntKind.wrap .i64 (Int.tdiv (IntKind.wrap .i64 (j2.1 + j2.2)) 2))))))) (
 some (.inr (.inl j2.1)))
noncomputable def F_r23_Index (p0 : List ByteArray) (p1 : ByteArray) : Option (Int × Bool) :=
 bindE (σ := (Int)) (
 loop (L_r23_Index_2 p0 p1) (0, (p0.length : Int))) fun j1 =>
 gd ((decide (j1 < (p0.length : Int))) = true → (0 : Int) ≤ j1 ∧ j1 < (p0.length : Int)) (
 bd (cond (decide (j1 < (p0.length : Int))) ((p0.getD (Int.toNat j1) default).toList == p1.toList) false) fun x5 =>
 some (j1, x5))
noncomputable def z_r23_Index (p0 : List ByteArray) (p1 : ByteArray) : Cert Tryz.prog 40 (Int × Bool) :=
 .r 2 2 100 [0, 1] [] <|
 .r 4 4 100 [0, 1, 6, 7] [] <|
 .sq 2 (fun j1 : (Int) => ⟨[(0, .c (.d (.ro 1 p0.length (gT fStr p0)))), (1, xs p1), (6, xi j1)], []⟩) (
 .s (.cn [0, 1, 6, 7] []) <|
 .lp 1 (fun j2 : (Int × Int) => ⟨[(0, .c (.d (.ro 1 p0.length (gT fStr p0)))), (1, xs p1), (6, xi j2.1), (7, xi j2.2)], []⟩) (0, (p0.length : Int)) fun j2 =>
 .r 3 3 100 [0, 1, 6, 7, 13] [] <|
 .cond 2 (
 .rp 5 5 100 [0, 1, 6, 7, 8] [] (some (((2 : Int) ≠ 0))) (ob1 (by decide)) <|
 .gd ((0 : Int) ≤ (IntKind.wrap .i64 (Int.tdiv (IntKind.wrap .i64 (j2.1 + j2.2)) 2)) ∧ (IntKind.wrap .i64 (Int.tdiv (IntKind.wrap .i64 (j2.1 + j2.2)) 2)) < (p0.length : Int)) fun g1 =>
 .rp 4 6 100 [0, 1, 6, 7, 8, 23] [] (let u1 := (IntKind.wrap .i64 (Int.tdiv (IntKind.wrap .i64 (j2.1 + j2.2)) 2)); some (((0 : Int) ≤ u1 ∧ u1 < (p0.length : Int)))) (ob1 g1) <|
 .bs ((Op.bytesLess (p0.getD (Int.toNat (IntKind.wrap .i64 (Int.tdiv (IntKind.wrap .i64 (j2.1 + j2.2)) 2))) default).toList p1.toList)) [23] xb fun x2 =>
 .cond 2 (
 .r 1 3 100 [0, 1, 6, 7] [] <|
 .bs ((IntKind.wrap .i64 ((IntKind.wrap .i64 (Int.tdiv (IntKind.wrap .i64 (j2.1 + j2.2)) 2)) + 1))) [6] xi fun x3 =>
 .lf 1 [0, 1, 6, 7] [] (.inl (x3, j2.2))
 ) (
 .r 1 2 100 [0, 1, 6, 7] [] <|
 .lf 1 [0, 1, 6, 7] [] (.inl (j2.1, (IntKind.wrap .i64 (Int.tdiv (IntKind.wrap .i64 (j2.1 + j2.2)) 2))))
 )
 ) (
 .lf 1 [0, 1, 6] [] (.inr (.inl j2.1))
 )
 ) fun j1 =>
 .s (.cn [0, 1, 6] []) <|
 .gd ((decide (j1 < (p0.length : Int))) = true → (0 : Int) ≤ j1 ∧ j1 < (p0.length : Int)) fun g4 =>
 .m 1 <|
 .s (.dr [] (let u2 := (decide (j1 < (p0.length : Int))); let u1 := (u2 = true → u2 = true); [(8, some (((u1 ∧ u1) ∧ (u2 = true → (0 : Int) ≤ j1 ∧ j1 < (p0.length : Int))))), (9, some (u1)), (11, some ((u1 ∧ u1))), (12, some (u1))]) (obsAll.cons (ob1 (⟨⟨fun h => h, fun h => h⟩, g4⟩)) (obsAll.cons (ob1 (fun h => h)) (obsAll.cons (ob1 (⟨fun h => h, fun h => h⟩)) (obsAll.cons (ob1 (fun h => h)) obsAll.nil)))) [4, 5] []) <|
 .bs ((cond (decide (j1 < (p0.length : Int))) ((p0.getD (Int.toNat j1) default).toList == p1.toList) false)) [5] xb fun x5 =>
 .lf 3 [4, 5] [] (j1, x5)
/-- logtide/logtideref23.Index -/
theorem c_r23_Index {p0 : List ByteArray} {p1 : ByteArray} {r : Int × Bool} (h : F_r23_Index p0 p1 = some r) : Spec Tryz.prog 102 [.c (.d (.ro 1 p0.length (gT fStr p0))), xs p1] [] (.tup [xi r.1, xb r.2]) [] :=
  Cert.spec [] (fun r : Int × Bool => .tup [xi r.1, xb r.2]) (fun r => []) (z_r23_Index p0 p1) Tryz.func102 rfl (by kernel_rfl) h
noncomputable def F_r27_PutBlock (p0 : List Int) (p1 : List Int) : Option (List Int) :=
 bnd (F_r23_PutVarint p0 (IntKind.wrap .u64 ((p1.length : Int)))) fun r1 =>
 gd ((r1.length + p1.length) * 1 ≤ 140737488355328) (
 some (r1 ++ p1))
noncomputable def z_r27_PutBlock (p0 : List Int) (p1 : List Int) : Cert Tryz.prog 12 (List Int) :=
 .s (.rn 1 100) <|
 .r 2 1 101 [0, 1] [100] <|
 .r 4 4 101 [1, 5, 8] [100] <|
 .bind (F_r23_PutVarint p0 (IntKind.wrap .u64 ((p1.length : Int)))) fun r1 hr1 =>
 .s (.call [(1, 100)] [(900, 101)] (c_r23_PutVarint hr1)) <|
 .r 0 1 102 [9, 10] [101] <|
 .gd ((r1.length + p1.length) * 1 ≤ 140737488355328) fun g2 =>
 .s (.appL (fInt .u8) (r1) (p1) (gT (fInt .u8) r1) (.inr rfl) 5 1 1 102 g2) <|
 .r 0 1 103 [4] [102] <|
 .s (.rn 102 900) <|
 .lf 3 [4] [900] (r1 ++ p1)
/-- logtide/logtideref27.PutBlock -/
theorem c_r27_PutBlock {p0 : List Int} {p1 : List Int} {r : List Int} (h : F_r27_PutBlock p0 p1 = some r) : Spec Tryz.prog 103 [.c (.nm 1), .c (.d (.ro 1 p1.length (gT (fInt .u8) p1)))] [(1, .rows 5 1 p0.length (gT (fInt .u8) p0))] (.c (.nm 900)) [(900, .rows 5 1 r.length (gT (fInt .u8) r))] :=
  Cert.spec [900] (fun r : List Int => .c (.nm 900)) (fun r => [(900, .rows 5 1 r.length (gT (fInt .u8) r))]) (z_r27_PutBlock p0 p1) Tryz.func103 rfl (by kernel_rfl) h
noncomputable def L_r23_Check_2 (p0 : List ByteArray) (j2 : Int) : Option ((Int) ⊕ ((Unit) ⊕ (Int))) :=
 cond (decide (j2 < (p0.length : Int))) (
 gd ((0 : Int) ≤ j2 ∧ j2 < (p0.length : Int)) (
 cond (decide (((p0.getD (Int.toNat j2) default).size : Int) > 2048)) (
 some (.inr (.inr (3)))) (
 some (.inl (IntKind.wrap .i64 (j2 + 1)))))) (
 some (.inr (.inl ())))
noncomputable def L_r23_Check_4 (p0 : List ByteArray) (j4 : Int) : Option ((Int) ⊕ ((Unit) ⊕ (Int))) :=
 cond (decide (j4 < (p0.length : Int))) (
 gd ((0 : Int) ≤ j4 ∧ j4 < (p0.length : Int)) (
 gd ((0 : Int) ≤ (IntKind.wrap .i64 (j4 - 1)) ∧ (IntKind.wrap .i64 (j4 - 1)) < (p0.length : Int)) (
 bd ((Op.bytesLess (p0.getD (Int.toNat j4) default).toList (p0.getD (Int.toNat (IntKind.wrap .i64 (j4 - 1))) default).toList) || ((p0.getD (Int.toNat j4) default).toList == (p0.getD (Int.toNat (IntKind.wrap .i64 (j4 - 1))) default).toList)) fun x4 =>
 cond x4 (
 some (.inr (.inr (19)))) (
 some (.inl (IntKind.wrap .i64 (j4 + 1))))))) (
 some (.inr (.inl ())))
noncomputable def F_r23_Check (p0 : List ByteArray) : Option (Int) :=
 cond (decide ((p0.length : Int) > 32768)) (
 some 4) (
 bindE (σ := (Unit)) (
 loop (L_r23_Check_2 p0) 0) fun j1 =>
 bindE (σ := (Unit)) (
 loop (L_r23_Check_4 p0) 1) fun j3 =>
 some 0)
noncomputable def z_r23_Check (p0 : List ByteArray) : Cert Tryz.prog 36 (Int) :=
 .r 2 1 100 [0] [] <|
 .r 5 3 100 [0, 7] [] <|
 .cond 2 (
 .r 2 1 100 [2] [] <|
 .lf 3 [2] [] 4
 ) (
 .sq 2 (fun j1 : (Unit) => ⟨[(0, .c (.d (.ro 1 p0.length (gT fStr p0))))], []⟩) (
 .r 2 1 100 [0, 3] [] <|
 .s (.cn [0, 3] []) <|
 .lp 3 (fun j2 : (Int) => ⟨[(0, .c (.d (.ro 1 p0.length (gT fStr p0)))), (3, xi j2)], []⟩) 0 fun j2 =>
 .r 3 4 100 [0, 3, 11] [] <|
 .cond 2 (
 .gd ((0 : Int) ≤ j2 ∧ j2 < (p0.length : Int)) fun g1 =>
 .rp 6 6 100 [0, 3, 19] [] (some (((0 : Int) ≤ j2 ∧ j2 < (p0.length : Int)))) (ob1 g1) <|
 .cond 2 (
 .r 2 1 100 [2] [] <|
 .lf 3 [2] [] (.inr (.inr (3)))
 ) (
 .r 4 3 100 [0, 3] [] <|
 .lf 1 [0, 3] [] (.inl (IntKind.wrap .i64 (j2 + 1)))
 )
 ) (
 .lf 1 [0] [] (.inr (.inl ()))
 )
 ) fun j1 =>
 .sq 0 (fun j3 : (Unit) => ⟨[], []⟩) (
 .r 2 1 100 [0, 4] [] <|
 .s (.cn [0, 4] []) <|
 .lp 3 (fun j4 : (Int) => ⟨[(0, .c (.d (.ro 1 p0.length (gT fStr p0)))), (4, xi j4)], []⟩) 1 fun j4 =>
 .r 3 4 100 [0, 4, 23] [] <|
 .cond 2 (
 .s (.cn [0, 4] []) <|
 .gd ((0 : Int) ≤ j4 ∧ j4 < (p0.length : Int)) fun g2 =>
 .gd ((0 : Int) ≤ (IntKind.wrap .i64 (j4 - 1)) ∧ (IntKind.wrap .i64 (j4 - 1)) < (p0.length : Int)) fun g3 =>
 .m 5 <|
 .s (.dr [] ([(2, some (((0 : Int) ≤ j4 ∧ j4 < (p0.length : Int)))), (7, some (((0 : Int) ≤ (IntKind.wrap .i64 (j4 - 1)) ∧ (IntKind.wrap .i64 (j4 - 1)) < (p0.length : Int))))]) (obsAll.cons (ob1 g2) (obsAll.cons (ob1 g3) obsAll.nil)) [0, 4, 35] []) <|
 .bs (((Op.bytesLess (p0.getD (Int.toNat j4) default).toList (p0.getD (Int.toNat (IntKind.wrap .i64 (j4 - 1))) default).toList) || ((p0.getD (Int.toNat j4) default).toList == (p0.getD (Int.toNat (IntKind.wrap .i64 (j4 - 1))) default).toList))) [35] xb fun x4 =>
 .cond 2 (
 .r 2 1 100 [2] [] <|
 .lf 3 [2] [] (.inr (.inr (19)))
 ) (
 .r 4 3 100 [0, 4] [] <|
 .lf 1 [0, 4] [] (.inl (IntKind.wrap .i64 (j4 + 1)))
 )
 ) (
 .lf 1 [] [] (.inr (.inl ()))
 )
 ) fun j3 =>
 .r 2 1 100 [2] [] <|
 .lf 3 [2] [] 0
 )
/-- logtide/logtideref23.Check -/
theorem c_r23_Check {p0 : List ByteArray} {r : Int} (h : F_r23_Check p0 = some r) : Spec Tryz.prog 129 [.c (.d (.ro 1 p0.length (gT fStr p0)))] [] (xi r) [] :=
  Cert.spec [] (fun r : Int => xi r) (fun r => []) (z_r23_Check p0) Tryz.func129 rfl (by kernel_rfl) h
noncomputable def L_r23_common_2 (p0 : ByteArray) (p1 : ByteArray) (j2 : Int) : Option ((Int) ⊕ ((Int) ⊕ (Int))) :=
 gd ((cond (decide (j2 < (p0.size : Int))) (decide (j2 < (p1.size : Int))) false) = true → (0 : Int) ≤ j2 ∧ j2 < (p0.size : Int)) (
 gd ((cond (decide (j2 < (p0.size : Int))) (decide (j2 < (p1.size : Int))) false) = true → (0 : Int) ≤ j2 ∧ j2 < (p1.size : Int)) (
 bd (cond (cond (decide (j2 < (p0.size : Int))) (decide (j2 < (p1.size : Int))) false) ((bt p0 j2) == (bt p1 j2)) false) fun x3 =>
 cond x3 (
 some (.inl (IntKind.wrap .i64 (j2 + 1)))) (
 some (.inr (.inl j2)))))
noncomputable def F_r23_common (p0 : ByteArray) (p1 : ByteArray) : Option (Int) :=
 bindE (σ := (Int)) (
 loop (L_r23_common_2 p0 p1) 0) fun j1 =>
 some j1
noncomputable def z_r23_common (p0 : ByteArray) (p1 : ByteArray) : Cert Tryz.prog 28 (Int) :=
 .r 2 1 100 [0, 1] [] <|
 .r 4 1 100 [0, 1, 5] [] <|
 .sq 2 (fun j1 : (Int) => ⟨[(5, xi j1)], []⟩) (
 .s (.cn [0, 1, 5] []) <|
 .lp 1 (fun j2 : (Int) => ⟨[(0, xs p0), (1, xs p1), (5, xi j2)], []⟩) 0 fun j2 =>
 .s (.cn [0, 1, 5] []) <|
 .gd ((cond (decide (j2 < (p0.size : Int))) (decide (j2 < (p1.size : Int))) false) = true → (0 : Int) ≤ j2 ∧ j2 < (p0.size : Int)) fun g1 =>
 .gd ((cond (decide (j2 < (p0.size : Int))) (decide (j2 < (p1.size : Int))) false) = true → (0 : Int) ≤ j2 ∧ j2 < (p1.size : Int)) fun g2 =>
 .m 2 <|
 .s (.dr [] (let u4 := (decide (j2 < (p0.size : Int))); let u1 := (cond u4 (decide (j2 < (p1.size : Int))) false); let u2 := (u4 = true → u4 = true); let u3 := (u1 = true → u1 = true); [(7, some (u2)), (8, some ((u2 ∧ u2))), (9, some (u2)), (13, some (((u3 ∧ u3) ∧ (u1 = true → (0 : Int) ≤ j2 ∧ j2 < (p0.size : Int))))), (16, some (((u3 ∧ u3) ∧ (u1 = true → (0 : Int) ≤ j2 ∧ j2 < (p1.size : Int))))), (17, some ((u3 ∧ u3))), (18, some (u3))]) (obsAll.cons (ob1 (fun h => h)) (obsAll.cons (ob1 (⟨fun h => h, fun h => h⟩)) (obsAll.cons (ob1 (fun h => h)) (obsAll.cons (ob1 (⟨⟨fun h => h, fun h => h⟩, g1⟩)) (obsAll.cons (ob1 (⟨⟨fun h => h, fun h => h⟩, g2⟩)) (obsAll.cons (ob1 (⟨fun h => h, fun h => h⟩)) (obsAll.cons (ob1 (fun h => h)) obsAll.nil))))))) [0, 1, 5, 24] []) <|
 .bs ((cond (cond (decide (j2 < (p0.size : Int))) (decide (j2 < (p1.size : Int))) false) ((bt p0 j2) == (bt p1 j2)) false)) [24] xb fun x3 =>
 .cond 2 (
 .r 4 3 100 [0, 1, 5] [] <|
 .lf 1 [0, 1, 5] [] (.inl (IntKind.wrap .i64 (j2 + 1)))
 ) (
 .lf 1 [5] [] (.inr (.inl j2))
 )
 ) fun j1 =>
 .r 2 2 100 [4] [] <|
 .lf 3 [4] [] j1
/-- logtide/logtideref23.common -/
theorem c_r23_common {p0 : ByteArray} {p1 : ByteArray} {r : Int} (h : F_r23_common p0 p1 = some r) : Spec Tryz.prog 130 [xs p0, xs p1] [] (xi r) [] :=
  Cert.spec [] (fun r : Int => xi r) (fun r => []) (z_r23_common p0 p1) Tryz.func130 rfl (by kernel_rfl) h
noncomputable def L_r23_Encode_2 (p0 : List ByteArray) (j2 : Int × List Int) : Option ((Int × List Int) ⊕ ((List Int) ⊕ (List Int × Int))) :=
 cond (decide (j2.1 < (p0.length : Int))) (
 bindE (σ := (Int × List Int)) (
 cond ((Int.tmod j2.1 16) != 0) (
 gd ((0 : Int) ≤ j2.1 ∧ j2.1 < (p0.length : Int)) (
 gd ((0 : Int) ≤ (IntKind.wrap .i64 (j2.1 - 1)) ∧ (IntKind.wrap .i64 (j2.1 - 1)) < (p0.length : Int)) (
 bnd (F_r23_common (p0.getD (Int.toNat j2.1) default) (p0.getD (Int.toNat (IntKind.wrap .i64 (j2.1 - 1))) default)) fun r5 =>
 bnd (F_r23_PutVarint j2.2 (IntKind.wrap .u64 (r5))) fun r6 =>
 some (.inl (r5, r6))))) (
 some (.inl (0, j2.2)))) fun j3 =>
 gd ((0 : Int) ≤ j2.1 ∧ j2.1 < (p0.length : Int)) (
 bnd (F_r23_PutVarint j3.2 (IntKind.wrap .u64 ((IntKind.wrap .i64 (((p0.getD (Int.toNat j2.1) default).size : Int) - j3.1))))) fun r8 =>
 gd ((0 : Int) ≤ (j3.1 : Int) ∧ (j3.1 : Int) ≤ (((p0.getD (Int.toNat j2.1) default).size : Int) : Int) ∧ (((p0.getD (Int.toNat j2.1) default).size : Int) : Int) ≤ ((p0.getD (Int.toNat j2.1) default).size : Int)) (
 gd ((r8.length + (strL ((p0.getD (Int.toNat j2.1) default).extract (Int.toNat j3.1) (Int.toNat ((p0.getD (Int.toNat j2.1) default).size : Int)))).length) * 1 ≤ 140737488355328) (
 bd (r8 ++ (strL ((p0.getD (Int.toNat j2.1) default).extract (Int.toNat j3.1) (Int.toNat ((p0.getD (Int.toNat j2.1) default).size : Int))))) fun x11 =>
 some (.inl ((IntKind.wrap .i64 (j2.1 + 1)), x11)))))) (
 some (.inr (.inl j2.2)))
noncomputable def F_r23_Encode (p0 : List ByteArray) : Option (List Int × Int) :=
 bnd (F_r23_Check p0) fun r1 =>
 cond (r1 != 0) (
 some (([] : List Int), r1)) (
 bnd (F_r23_PutVarint [] (IntKind.wrap .u64 ((p0.length : Int)))) fun r2 =>
 bindE (σ := (List Int)) (
 loop (L_r23_Encode_2 p0) (0, r2)) fun j1 =>
 some (j1, 0))
noncomputable def z_r23_Encode (p0 : List ByteArray) : Cert Tryz.prog 59 (List Int × Int) :=
 .r 2 2 100 [0] [] <|
 .r 5 1 100 [0, 8] [] <|
 .bind (F_r23_Check p0) fun r1 hr1 =>
 .s (.call [] [] (c_r23_Check hr1)) <|
 .r 0 1 100 [0, 4] [] <|
 .r 4 2 100 [0, 4, 11] [] <|
 .cond 2 (
 .r 2 3 100 [2, 3] [] <|
 .s (.own 2 100 5 1 (gT (fInt .u8) [])) <|
 .s (.rn 100 900) <|
 .lf 3 [2, 3] [900] (([] : List Int), r1)
 ) (
 .r 4 3 101 [0, 15] [] <|
 .bind (F_r23_PutVarint [] (IntKind.wrap .u64 ((p0.length : Int)))) fun r2 hr2 =>
 .s (.call [] [(900, 101)] ((c_r23_PutVarint hr2).nilArg 1 _ _ rfl rfl (by kernel_rfl))) <|
 .r 0 1 102 [0, 5] [101] <|
 .sq 2 (fun j1 : (List Int) => ⟨[(5, .c (.nm 101))], [(101, .rows 5 1 j1.length (gT (fInt .u8) j1))]⟩) (
 .r 2 1 102 [0, 5, 6] [101] <|
 .s (.cn [0, 5, 6] [101]) <|
 .lp 3 (fun j2 : (Int × List Int) => ⟨[(0, .c (.d (.ro 1 p0.length (gT fStr p0)))), (5, .c (.nm 101)), (6, xi j2.1)], [(101, .rows 5 1 j2.2.length (gT (fInt .u8) j2.2))]⟩) (0, r2) fun j2 =>
 .r 3 4 102 [0, 5, 6, 20] [101] <|
 .cond 2 (
 .r 6 1 102 [0, 5, 6, 7] [101] <|
 .sq 2 (fun j3 : (Int × List Int) => ⟨[(0, .c (.d (.ro 1 p0.length (gT fStr p0)))), (5, .c (.nm 102)), (6, xi j2.1), (7, xi j3.1)], [(102, .rows 5 1 j3.2.length (gT (fInt .u8) j3.2))]⟩) (
 .rp 2 3 102 [0, 5, 6, 7, 25] [101] (some (((16 : Int) ≠ 0))) (ob1 (by decide)) <|
 .cond 2 (
 .s (.cn [0, 5, 6] [101]) <|
 .gd ((0 : Int) ≤ j2.1 ∧ j2.1 < (p0.length : Int)) fun g3 =>
 .gd ((0 : Int) ≤ (IntKind.wrap .i64 (j2.1 - 1)) ∧ (IntKind.wrap .i64 (j2.1 - 1)) < (p0.length : Int)) fun g4 =>
 .bind (F_r23_common (p0.getD (Int.toNat j2.1) default) (p0.getD (Int.toNat (IntKind.wrap .i64 (j2.1 - 1))) default)) fun r5 hr5 =>
 .m 1 <|
 .s (.dr [.call 9 [] [] (c_r23_common hr5)] ([(2, some (((0 : Int) ≤ j2.1 ∧ j2.1 < (p0.length : Int)))), (7, some (((0 : Int) ≤ (IntKind.wrap .i64 (j2.1 - 1)) ∧ (IntKind.wrap .i64 (j2.1 - 1)) < (p0.length : Int))))]) (obsAll.cons (ob1 g3) (obsAll.cons (ob1 g4) obsAll.nil)) [0, 5, 6, 7] [101]) <|
 .r 3 3 102 [0, 6, 7, 36, 38] [101] <|
 .bind (F_r23_PutVarint j2.2 (IntKind.wrap .u64 (r5))) fun r6 hr6 =>
 .s (.call [(1, 101)] [(900, 102)] (c_r23_PutVarint hr6)) <|
 .r 0 1 103 [0, 5, 6, 7] [102] <|
 .lf 1 [0, 5, 6, 7] [102] (.inl (r5, r6))
 ) (
 .s (.cn [0, 5, 6, 7] [101]) <|
 .s (.rn 101 102) <|
 .lf 1 [0, 5, 6, 7] [102] (.inl (0, j2.2))
 )
 ) fun j3 =>
 .gd ((0 : Int) ≤ j2.1 ∧ j2.1 < (p0.length : Int)) fun g7 =>
 .rp 2 9 103 [0, 6, 7, 40, 48] [102] (some (((0 : Int) ≤ j2.1 ∧ j2.1 < (p0.length : Int)))) (ob1 g7) <|
 .bind (F_r23_PutVarint j3.2 (IntKind.wrap .u64 ((IntKind.wrap .i64 (((p0.getD (Int.toNat j2.1) default).size : Int) - j3.1))))) fun r8 hr8 =>
 .s (.call [(1, 102)] [(900, 103)] (c_r23_PutVarint hr8)) <|
 .r 0 1 104 [0, 5, 6, 7] [103] <|
 .gd ((0 : Int) ≤ (j3.1 : Int) ∧ (j3.1 : Int) ≤ (((p0.getD (Int.toNat j2.1) default).size : Int) : Int) ∧ (((p0.getD (Int.toNat j2.1) default).size : Int) : Int) ≤ ((p0.getD (Int.toNat j2.1) default).size : Int)) fun g9 =>
 .rp 3 7 104 [0, 6, 50, 56] [103] (let u1 := ((p0.getD (Int.toNat j2.1) default).size : Int); some ((((0 : Int) ≤ j2.1 ∧ j2.1 < (p0.length : Int)) ∧ ((0 : Int) ≤ (j3.1 : Int) ∧ (j3.1 : Int) ≤ (u1 : Int) ∧ (u1 : Int) ≤ u1)))) (ob1 (⟨g7, g9⟩)) <|
 .gd ((r8.length + (strL ((p0.getD (Int.toNat j2.1) default).extract (Int.toNat j3.1) (Int.toNat ((p0.getD (Int.toNat j2.1) default).size : Int)))).length) * 1 ≤ 140737488355328) fun g10 =>
 .s (.appS ((p0.getD (Int.toNat j2.1) default).extract (Int.toNat j3.1) (Int.toNat ((p0.getD (Int.toNat j2.1) default).size : Int))) (r8) (gT (fInt .u8) r8) (.inr rfl) 5 1 104 g10) <|
 .r 0 1 105 [0, 5, 6] [104] <|
 .bh ((r8 ++ (strL ((p0.getD (Int.toNat j2.1) default).extract (Int.toNat j3.1) (Int.toNat ((p0.getD (Int.toNat j2.1) default).size : Int)))))) 104 (fun x11 => .rows 5 1 x11.length (gT (fInt .u8) x11)) fun x11 =>
 .r 4 3 105 [0, 5, 6] [104] <|
 .s (.cn [0, 5, 6] [104]) <|
 .s (.rn 104 101) <|
 .lf 1 [0, 5, 6] [101] (.inl ((IntKind.wrap .i64 (j2.1 + 1)), x11))
 ) (
 .lf 1 [5] [101] (.inr (.inl j2.2))
 )
 ) fun j1 =>
 .r 2 3 105 [2, 3] [101] <|
 .s (.rn 101 900) <|
 .lf 3 [2, 3] [900] (j1, 0)
 )
/-- logtide/logtideref23.Encode -/
theorem c_r23_Encode {p0 : List ByteArray} {r : List Int × Int} (h : F_r23_Encode p0 = some r) : Spec Tryz.prog 119 [.c (.d (.ro 1 p0.length (gT fStr p0)))] [] (.tup [.c (.nm 900), xi r.2]) [(900, .rows 5 1 r.1.length (gT (fInt .u8) r.1))] :=
  Cert.spec [900] (fun r : List Int × Int => .tup [.c (.nm 900), xi r.2]) (fun r => [(900, .rows 5 1 r.1.length (gT (fInt .u8) r.1))]) (z_r23_Encode p0) Tryz.func119 rfl (by kernel_rfl) h
noncomputable def F_r27_dictionary (p0 : List ByteArray) : Option (List Int) :=
 bnd (F_r23_Encode p0) fun r1 =>
 some r1.1
noncomputable def z_r27_dictionary (p0 : List ByteArray) : Cert Tryz.prog 11 (List Int) :=
 .r 2 1 100 [0] [] <|
 .r 4 1 100 [6] [] <|
 .bind (F_r23_Encode p0) fun r1 hr1 =>
 .s (.call [] [(900, 100)] (c_r23_Encode hr1)) <|
 .r 0 5 101 [3] [100] <|
 .r 4 2 101 [2] [100] <|
 .s (.rn 100 900) <|
 .lf 3 [2] [900] r1.1
/-- logtide/logtideref27.dictionary -/
theorem c_r27_dictionary {p0 : List ByteArray} {r : List Int} (h : F_r27_dictionary p0 = some r) : Spec Tryz.prog 104 [.c (.d (.ro 1 p0.length (gT fStr p0)))] [] (.c (.nm 900)) [(900, .rows 5 1 r.length (gT (fInt .u8) r))] :=
  Cert.spec [900] (fun r : List Int => .c (.nm 900)) (fun r => [(900, .rows 5 1 r.length (gT (fInt .u8) r))]) (z_r27_dictionary p0) Tryz.func104 rfl (by kernel_rfl) h
noncomputable def L_r27_indexed_2 (p0 : List ByteArray) (r1 : List ByteArray) (j2 : Int × List Int) : Option ((Int × List Int) ⊕ ((List Int) ⊕ (List Int))) :=
 cond (decide (j2.1 < (p0.length : Int))) (
 gd ((0 : Int) ≤ j2.1 ∧ j2.1 < (p0.length : Int)) (
 bnd (F_r23_Index r1 (p0.getD (Int.toNat j2.1) default)) fun r3 =>
 gd ((j2.2.length + ([r3.1] : List Int).length) * 8 ≤ 140737488355328) (
 some (.inl ((IntKind.wrap .i64 (j2.1 + 1)), (j2.2 ++ ([r3.1] : List Int))))))) (
 some (.inr (.inl j2.2)))
noncomputable def F_r27_indexed (p0 : List ByteArray) : Option (List Int) :=
 bnd (F_r23_Distinct p0) fun r1 =>
 bindE (σ := (List Int)) (
 loop (L_r27_indexed_2 p0 r1) (0, ([] : List Int))) fun j1 =>
 bnd (F_r27_dictionary r1) fun r5 =>
 bnd (F_r27_PutBlock [] r5) fun r6 =>
 bnd (F_r27_column j1) fun r7 =>
 bnd (F_r27_PutBlock r6 r7) fun r8 =>
 some r8
noncomputable def z_r27_indexed (p0 : List ByteArray) : Cert Tryz.prog 35 (List Int) :=
 .r 2 1 100 [0] [] <|
 .r 4 1 100 [0, 8] [] <|
 .bind (F_r23_Distinct p0) fun r1 hr1 =>
 .s (.call [] [(900, 100)] (c_r23_Distinct hr1)) <|
 .r 0 1 101 [0, 3] [100] <|
 .r 4 1 101 [0, 3, 4] [100] <|
 .sq 2 (fun j1 : (List Int) => ⟨[(3, .c (.nm 100)), (4, .c (.nm 101))], [(100, .rows 9 1 r1.length (gT fStr r1)), (101, .rows 3 1 j1.length (gT (fInt .i64) j1))]⟩) (
 .r 2 1 101 [0, 3, 4, 5] [100] <|
 .s (.own 4 101 3 1 (gT (fInt .i64) [])) <|
 .s (.cn [0, 3, 4, 5] [100, 101]) <|
 .lp 3 (fun j2 : (Int × List Int) => ⟨[(0, .c (.d (.ro 1 p0.length (gT fStr p0)))), (3, .c (.nm 100)), (4, .c (.nm 101)), (5, xi j2.1)], [(100, .rows 9 1 r1.length (gT fStr r1)), (101, .rows 3 1 j2.2.length (gT (fInt .i64) j2.2))]⟩) (0, ([] : List Int)) fun j2 =>
 .r 3 4 102 [0, 3, 4, 5, 13] [100, 101] <|
 .cond 2 (
 .gd ((0 : Int) ≤ j2.1 ∧ j2.1 < (p0.length : Int)) fun g2 =>
 .rp 6 5 102 [0, 3, 4, 5, 17, 21] [100, 101] (some (((0 : Int) ≤ j2.1 ∧ j2.1 < (p0.length : Int)))) (ob1 g2) <|
 .bind (F_r23_Index r1 (p0.getD (Int.toNat j2.1) default)) fun r3 hr3 =>
 .s (.call [(60, 100)] [] (Spec.lend 60 9 1 r1.length (gT fStr r1) _ (c_r23_Index hr3) (args := [.c (.nm 60), xs (p0.getD (Int.toNat j2.1) default)]) rfl rfl rfl (by repeat (first | trivial | refine ⟨fun _ _ => ⟨_, rfl⟩, ?_⟩)))) <|
 .r 0 5 102 [0, 3, 4, 5, 6] [100, 101] <|
 .r 3 3 102 [0, 3, 5, 25, 27] [100, 101] <|
 .gd ((j2.2.length + ([r3.1] : List Int).length) * 8 ≤ 140737488355328) fun g4 =>
 .s (.appL (fInt .i64) (j2.2) (([r3.1] : List Int)) (gT (fInt .i64) j2.2) (.inr rfl) 3 1 8 102 g4) <|
 .r 0 1 103 [0, 3, 4, 5] [100, 102] <|
 .r 4 3 103 [0, 3, 4, 5] [100, 102] <|
 .s (.cn [0, 3, 4, 5] [100, 102]) <|
 .s (.rn 102 101) <|
 .lf 1 [0, 3, 4, 5] [100, 101] (.inl ((IntKind.wrap .i64 (j2.1 + 1)), (j2.2 ++ ([r3.1] : List Int))))
 ) (
 .lf 1 [3, 4] [100, 101] (.inr (.inl j2.2))
 )
 ) fun j1 =>
 .r 2 1 103 [4, 29] [100, 101] <|
 .bind (F_r27_dictionary r1) fun r5 hr5 =>
 .s (.call [(60, 100)] [(900, 103)] (Spec.lend 60 9 1 r1.length (gT fStr r1) _ (c_r27_dictionary hr5) (args := [.c (.nm 60)]) rfl rfl rfl (by repeat (first | trivial | refine ⟨fun _ _ => ⟨_, rfl⟩, ?_⟩)))) <|
 .r 0 0 104 [4, 30] [101, 103] <|
 .bind (F_r27_PutBlock [] r5) fun r6 hr6 =>
 .s (.call [(61, 103)] [(900, 104)] (Spec.lend 61 5 1 r5.length (gT (fInt .u8) r5) _ ((c_r27_PutBlock hr6).nilArg 1 _ _ rfl rfl (by kernel_rfl)) (args := [xv (.slice none 0 0), .c (.nm 61)]) rfl rfl rfl (by repeat (first | trivial | refine ⟨fun _ _ => ⟨_, rfl⟩, ?_⟩)))) <|
 .r 0 1 105 [31, 32] [101, 104] <|
 .bind (F_r27_column j1) fun r7 hr7 =>
 .s (.call [(60, 101)] [(900, 105)] (Spec.lend 60 3 1 j1.length (gT (fInt .i64) j1) _ (c_r27_column hr7) (args := [.c (.nm 60)]) rfl rfl rfl (by repeat (first | trivial | refine ⟨fun _ _ => ⟨_, rfl⟩, ?_⟩)))) <|
 .r 0 0 106 [31, 33] [104, 105] <|
 .bind (F_r27_PutBlock r6 r7) fun r8 hr8 =>
 .s (.call [(61, 105), (1, 104)] [(900, 106)] (Spec.lend 61 5 1 r7.length (gT (fInt .u8) r7) _ (c_r27_PutBlock hr8) (args := [.c (.nm 1), .c (.nm 61)]) rfl rfl rfl (by repeat (first | trivial | refine ⟨fun _ _ => ⟨_, rfl⟩, ?_⟩)))) <|
 .r 0 1 107 [2] [106] <|
 .s (.rn 106 900) <|
 .lf 3 [2] [900] r8
/-- logtide/logtideref27.indexed -/
theorem c_r27_indexed {p0 : List ByteArray} {r : List Int} (h : F_r27_indexed p0 = some r) : Spec Tryz.prog 72 [.c (.d (.ro 1 p0.length (gT fStr p0)))] [] (.c (.nm 900)) [(900, .rows 5 1 r.length (gT (fInt .u8) r))] :=
  Cert.spec [900] (fun r : List Int => .c (.nm 900)) (fun r => [(900, .rows 5 1 r.length (gT (fInt .u8) r))]) (z_r27_indexed p0) Tryz.func72 rfl (by kernel_rfl) h
noncomputable def L_r27_lines_4 (p0 : List S_Event) (j2 : Int × List Int × List Int × List Int × List Int × List Int) (j4 : Int × List Int × List Int × List Int × List Int) : Option ((Int × List Int × List Int × List Int × List Int) ⊕ ((List Int × List Int × List Int × List Int × List Int) ⊕ ((Int × List Int × List Int × List Int × List Int × List Int) ⊕ ((List Int × List Int × List Int × List Int × List Int) ⊕ (List Int))))) :=
 cond (decide (j4.1 < (((p0.getD (Int.toNat j2.1) default).Lines).length : Int))) (
 gd ((0 : Int) ≤ j4.1 ∧ j4.1 < (((p0.getD (Int.toNat j2.1) default).Lines).length : Int)) (
 gd ((j4.2.1.length + ([(((p0.getD (Int.toNat j2.1) default).Lines).getD (Int.toNat j4.1) default).Offset] : List Int).length) * 8 ≤ 140737488355328) (
 gd ((j4.2.2.1.length + ([(((p0.getD (Int.toNat j2.1) default).Lines).getD (Int.toNat j4.1) default).Length] : List Int).length) * 8 ≤ 140737488355328) (
 gd ((j4.2.2.2.1.length + ([(((((p0.getD (Int.toNat j2.1) default).Lines).getD (Int.toNat j4.1) default).Text).size : Int)] : List Int).length) * 8 ≤ 140737488355328) (
 bd (j4.2.1 ++ ([(((p0.getD (Int.toNat j2.1) default).Lines).getD (Int.toNat j4.1) default).Offset] : List Int)) fun x7 =>
 bd (j4.2.2.1 ++ ([(((p0.getD (Int.toNat j2.1) default).Lines).getD (Int.toNat j4.1) default).Length] : List Int)) fun x8 =>
 bd (j4.2.2.2.1 ++ ([(((((p0.getD (Int.toNat j2.1) default).Lines).getD (Int.toNat j4.1) default).Text).size : Int)] : List Int)) fun x9 =>
 gd ((j4.2.2.2.2.length + (strL ((((p0.getD (Int.toNat j2.1) default).Lines).getD (Int.toNat j4.1) default).Text)).length) * 1 ≤ 140737488355328) (
 bd (j4.2.2.2.2 ++ (strL ((((p0.getD (Int.toNat j2.1) default).Lines).getD (Int.toNat j4.1) default).Text))) fun x11 =>
 some (.inl ((IntKind.wrap .i64 (j4.1 + 1)), x7, x8, x9, x11)))))))) (
 some (.inr (.inl (j4.2.1, j4.2.2.1, j4.2.2.2.1, j4.2.2.2.2, (j2.2.1 ++ ([(((p0.getD (Int.toNat j2.1) default).Lines).length : Int)] : List Int))))))
noncomputable def L_r27_lines_2 (p0 : List S_Event) (j2 : Int × List Int × List Int × List Int × List Int × List Int) : Option ((Int × List Int × List Int × List Int × List Int × List Int) ⊕ ((List Int × List Int × List Int × List Int × List Int) ⊕ (List Int))) :=
 cond (decide (j2.1 < (p0.length : Int))) (
 bindE (σ := (List Int × List Int × List Int × List Int × List Int)) (
 gd ((0 : Int) ≤ j2.1 ∧ j2.1 < (p0.length : Int)) (
 gd ((j2.2.1.length + ([(((p0.getD (Int.toNat j2.1) default).Lines).length : Int)] : List Int).length) * 8 ≤ 140737488355328) (
 loop (L_r27_lines_4 p0 j2) (0, j2.2.2.1, j2.2.2.2.1, j2.2.2.2.2.1, j2.2.2.2.2.2)))) fun j3 =>
 some (.inl ((IntKind.wrap .i64 (j2.1 + 1)), j3.2.2.2.2, j3.1, j3.2.1, j3.2.2.1, j3.2.2.2.1))) (
 some (.inr (.inl (j2.2.1, j2.2.2.1, j2.2.2.2.1, j2.2.2.2.2.1, j2.2.2.2.2.2))))
noncomputable def F_r27_lines (p0 : List S_Event) : Option (List Int) :=
 bindE (σ := (List Int × List Int × List Int × List Int × List Int)) (
 loop (L_r27_lines_2 p0) (0, ([] : List Int), ([] : List Int), ([] : List Int), ([] : List Int), ([] : List Int))) fun j1 =>
 bnd (F_r27_column j1.1) fun r12 =>
 bnd (F_r27_PutBlock [] r12) fun r13 =>
 bnd (F_r27_column j1.2.1) fun r14 =>
 bnd (F_r27_PutBlock r13 r14) fun r15 =>
 bnd (F_r27_column j1.2.2.1) fun r16 =>
 bnd (F_r27_PutBlock r15 r16) fun r17 =>
 bnd (F_r27_column j1.2.2.2.1) fun r18 =>
 bnd (F_r27_PutBlock r17 r18) fun r19 =>
 gd ((r19.length + j1.2.2.2.2.length) * 1 ≤ 140737488355328) (
 some (r19 ++ j1.2.2.2.2))
noncomputable def z_r27_lines (p0 : List S_Event) : Cert Tryz.prog 80 (List Int) :=
 .r 2 1 100 [0] [] <|
 .r 4 4 100 [0, 3, 4, 5, 6] [] <|
 .r 4 1 100 [0, 3, 4, 5, 6, 7] [] <|
 .sq 2 (fun j1 : (List Int × List Int × List Int × List Int × List Int) => ⟨[(3, .c (.nm 100)), (4, .c (.nm 101)), (5, .c (.nm 102)), (6, .c (.nm 103)), (7, .c (.nm 104))], [(100, .rows 3 1 j1.1.length (gT (fInt .i64) j1.1)), (101, .rows 3 1 j1.2.1.length (gT (fInt .i64) j1.2.1)), (102, .rows 3 1 j1.2.2.1.length (gT (fInt .i64) j1.2.2.1)), (103, .rows 3 1 j1.2.2.2.1.length (gT (fInt .i64) j1.2.2.2.1)), (104, .rows 5 1 j1.2.2.2.2.length (gT (fInt .u8) j1.2.2.2.2))]⟩) (
 .r 2 1 100 [0, 3, 4, 5, 6, 7, 8] [] <|
 .s (.own 3 100 3 1 (gT (fInt .i64) [])) <|
 .s (.own 4 101 3 1 (gT (fInt .i64) [])) <|
 .s (.own 5 102 3 1 (gT (fInt .i64) [])) <|
 .s (.own 6 103 3 1 (gT (fInt .i64) [])) <|
 .s (.own 7 104 5 1 (gT (fInt .u8) [])) <|
 .s (.cn [0, 3, 4, 5, 6, 7, 8] [100, 101, 102, 103, 104]) <|
 .lp 3 (fun j2 : (Int × List Int × List Int × List Int × List Int × List Int) => ⟨[(0, .c (.d (.ro 10 p0.length (gT fS_Event p0)))), (3, .c (.nm 100)), (4, .c (.nm 101)), (5, .c (.nm 102)), (6, .c (.nm 103)), (7, .c (.nm 104)), (8, xi j2.1)], [(100, .rows 3 1 j2.2.1.length (gT (fInt .i64) j2.2.1)), (101, .rows 3 1 j2.2.2.1.length (gT (fInt .i64) j2.2.2.1)), (102, .rows 3 1 j2.2.2.2.1.length (gT (fInt .i64) j2.2.2.2.1)), (103, .rows 3 1 j2.2.2.2.2.1.length (gT (fInt .i64) j2.2.2.2.2.1)), (104, .rows 5 1 j2.2.2.2.2.2.length (gT (fInt .u8) j2.2.2.2.2.2))]⟩) (0, ([] : List Int), ([] : List Int), ([] : List Int), ([] : List Int), ([] : List Int)) fun j2 =>
 .r 3 4 105 [0, 3, 4, 5, 6, 7, 8, 15] [100, 101, 102, 103, 104] <|
 .cond 2 (
 .sq 2 (fun j3 : (List Int × List Int × List Int × List Int × List Int) => ⟨[(0, .c (.d (.ro 10 p0.length (gT fS_Event p0)))), (3, .c (.nm 105)), (4, .c (.nm 101)), (5, .c (.nm 102)), (6, .c (.nm 103)), (7, .c (.nm 104)), (8, xi j2.1)], [(101, .rows 3 1 j3.1.length (gT (fInt .i64) j3.1)), (102, .rows 3 1 j3.2.1.length (gT (fInt .i64) j3.2.1)), (103, .rows 3 1 j3.2.2.1.length (gT (fInt .i64) j3.2.2.1)), (104, .rows 5 1 j3.2.2.2.1.length (gT (fInt .u8) j3.2.2.2.1)), (105, .rows 3 1 j3.2.2.2.2.length (gT (fInt .i64) j3.2.2.2.2))]⟩) (
 .gd ((0 : Int) ≤ j2.1 ∧ j2.1 < (p0.length : Int)) fun g1 =>
 .rp 3 8 105 [0, 4, 5, 6, 7, 8, 18, 25] [100, 101, 102, 103, 104] (some (((0 : Int) ≤ j2.1 ∧ j2.1 < (p0.length : Int)))) (ob1 g1) <|
 .gd ((j2.2.1.length + ([(((p0.getD (Int.toNat j2.1) default).Lines).length : Int)] : List Int).length) * 8 ≤ 140737488355328) fun g2 =>
 .s (.appL (fInt .i64) (j2.2.1) (([(((p0.getD (Int.toNat j2.1) default).Lines).length : Int)] : List Int)) (gT (fInt .i64) j2.2.1) (.inr rfl) 3 1 8 105 g2) <|
 .r 0 1 106 [0, 3, 4, 5, 6, 7, 8] [101, 102, 103, 104, 105] <|
 .r 4 1 106 [0, 3, 4, 5, 6, 7, 8, 9] [101, 102, 103, 104, 105] <|
 .s (.cn [0, 3, 4, 5, 6, 7, 8, 9] [101, 102, 103, 104, 105]) <|
 .lp 3 (fun j4 : (Int × List Int × List Int × List Int × List Int) => let u1 := (j2.2.1 ++ ([(((p0.getD (Int.toNat j2.1) default).Lines).length : Int)] : List Int)); ⟨[(0, .c (.d (.ro 10 p0.length (gT fS_Event p0)))), (3, .c (.nm 105)), (4, .c (.nm 101)), (5, .c (.nm 102)), (6, .c (.nm 103)), (7, .c (.nm 104)), (8, xi j2.1), (9, xi j4.1)], [(101, .rows 3 1 j4.2.1.length (gT (fInt .i64) j4.2.1)), (102, .rows 3 1 j4.2.2.1.length (gT (fInt .i64) j4.2.2.1)), (103, .rows 3 1 j4.2.2.2.1.length (gT (fInt .i64) j4.2.2.2.1)), (104, .rows 5 1 j4.2.2.2.2.length (gT (fInt .u8) j4.2.2.2.2)), (105, .rows 3 1 u1.length (gT (fInt .i64) u1))]⟩) (0, j2.2.2.1, j2.2.2.2.1, j2.2.2.2.2.1, j2.2.2.2.2.2) fun j4 =>
 .rp 3 8 106 [0, 3, 4, 5, 6, 7, 8, 9, 34] [101, 102, 103, 104, 105] (some (((0 : Int) ≤ j2.1 ∧ j2.1 < (p0.length : Int)))) (ob1 g1) <|
 .cond 2 (
 .gd ((0 : Int) ≤ j4.1 ∧ j4.1 < (((p0.getD (Int.toNat j2.1) default).Lines).length : Int)) fun g3 =>
 .rp 6 10 106 [0, 3, 4, 5, 6, 7, 8, 9, 10] [101, 102, 103, 104, 105, 106] (some ((((0 : Int) ≤ j2.1 ∧ j2.1 < (p0.length : Int)) ∧ ((0 : Int) ≤ j4.1 ∧ j4.1 < (((p0.getD (Int.toNat j2.1) default).Lines).length : Int))))) (ob1 (⟨g1, g3⟩)) <|
 .s (.cn [0, 3, 4, 5, 6, 7, 8, 9, 10] [101, 102, 103, 104, 105, 106]) <|
 .gd ((j4.2.1.length + ([(((p0.getD (Int.toNat j2.1) default).Lines).getD (Int.toNat j4.1) default).Offset] : List Int).length) * 8 ≤ 140737488355328) fun g4 =>
 .gd ((j4.2.2.1.length + ([(((p0.getD (Int.toNat j2.1) default).Lines).getD (Int.toNat j4.1) default).Length] : List Int).length) * 8 ≤ 140737488355328) fun g5 =>
 .gd ((j4.2.2.2.1.length + ([(((((p0.getD (Int.toNat j2.1) default).Lines).getD (Int.toNat j4.1) default).Text).size : Int)] : List Int).length) * 8 ≤ 140737488355328) fun g6 =>
 .m 3 <|
 .s (.dr [.appL (fInt .i64) (j4.2.1) (([(((p0.getD (Int.toNat j2.1) default).Lines).getD (Int.toNat j4.1) default).Offset] : List Int)) (gT (fInt .i64) j4.2.1) (.inr rfl) 4 (some 101) 3 1 8 107 g4, .appL (fInt .i64) (j4.2.2.1) (([(((p0.getD (Int.toNat j2.1) default).Lines).getD (Int.toNat j4.1) default).Length] : List Int)) (gT (fInt .i64) j4.2.2.1) (.inr rfl) 9 (some 102) 3 1 8 108 g5, .appL (fInt .i64) (j4.2.2.2.1) (([(((((p0.getD (Int.toNat j2.1) default).Lines).getD (Int.toNat j4.1) default).Text).size : Int)] : List Int)) (gT (fInt .i64) j4.2.2.2.1) (.inr rfl) 15 (some 103) 3 1 8 109 g6] ([]) obsAll.nil [0, 3, 4, 5, 6, 7, 8, 9, 10] [104, 105, 106, 107, 108, 109]) <|
 .bh ((j4.2.1 ++ ([(((p0.getD (Int.toNat j2.1) default).Lines).getD (Int.toNat j4.1) default).Offset] : List Int))) 107 (fun x7 => .rows 3 1 x7.length (gT (fInt .i64) x7)) fun x7 =>
 .bh ((j4.2.2.1 ++ ([(((p0.getD (Int.toNat j2.1) default).Lines).getD (Int.toNat j4.1) default).Length] : List Int))) 108 (fun x8 => .rows 3 1 x8.length (gT (fInt .i64) x8)) fun x8 =>
 .bh ((j4.2.2.2.1 ++ ([(((((p0.getD (Int.toNat j2.1) default).Lines).getD (Int.toNat j4.1) default).Text).size : Int)] : List Int))) 109 (fun x9 => .rows 3 1 x9.length (gT (fInt .i64) x9)) fun x9 =>
 .r 3 3 110 [0, 3, 4, 5, 6, 8, 9, 61, 63] [104, 105, 107, 108, 109] <|
 .gd ((j4.2.2.2.2.length + (strL ((((p0.getD (Int.toNat j2.1) default).Lines).getD (Int.toNat j4.1) default).Text)).length) * 1 ≤ 140737488355328) fun g10 =>
 .s (.appS ((((p0.getD (Int.toNat j2.1) default).Lines).getD (Int.toNat j4.1) default).Text) (j4.2.2.2.2) (gT (fInt .u8) j4.2.2.2.2) (.inr rfl) 5 1 110 g10) <|
 .r 0 1 111 [0, 3, 4, 5, 6, 7, 8, 9] [105, 107, 108, 109, 110] <|
 .bh ((j4.2.2.2.2 ++ (strL ((((p0.getD (Int.toNat j2.1) default).Lines).getD (Int.toNat j4.1) default).Text)))) 110 (fun x11 => .rows 5 1 x11.length (gT (fInt .u8) x11)) fun x11 =>
 .r 4 3 111 [0, 3, 4, 5, 6, 7, 8, 9] [105, 107, 108, 109, 110] <|
 .s (.cn [0, 3, 4, 5, 6, 7, 8, 9] [105, 107, 108, 109, 110]) <|
 .s (.rn 107 101) <|
 .s (.rn 108 102) <|
 .s (.rn 109 103) <|
 .s (.rn 110 104) <|
 .lf 1 [0, 3, 4, 5, 6, 7, 8, 9] [101, 102, 103, 104, 105] (.inl ((IntKind.wrap .i64 (j4.1 + 1)), x7, x8, x9, x11))
 ) (
 .lf 1 [0, 3, 4, 5, 6, 7, 8] [101, 102, 103, 104, 105] (.inr (.inl (j4.2.1, j4.2.2.1, j4.2.2.2.1, j4.2.2.2.2, (j2.2.1 ++ ([(((p0.getD (Int.toNat j2.1) default).Lines).length : Int)] : List Int)))))
 )
 ) fun j3 =>
 .r 1 3 111 [0, 3, 4, 5, 6, 7, 8] [101, 102, 103, 104, 105] <|
 .s (.cn [0, 3, 4, 5, 6, 7, 8] [101, 102, 103, 104, 105]) <|
 .s (.rn 105 100) <|
 .lf 1 [0, 3, 4, 5, 6, 7, 8] [100, 101, 102, 103, 104] (.inl ((IntKind.wrap .i64 (j2.1 + 1)), j3.2.2.2.2, j3.1, j3.2.1, j3.2.2.1, j3.2.2.2.1))
 ) (
 .lf 1 [3, 4, 5, 6, 7] [100, 101, 102, 103, 104] (.inr (.inl (j2.2.1, j2.2.2.1, j2.2.2.2.1, j2.2.2.2.2.1, j2.2.2.2.2.2)))
 )
 ) fun j1 =>
 .r 2 1 111 [4, 5, 6, 7, 65] [100, 101, 102, 103, 104] <|
 .bind (F_r27_column j1.1) fun r12 hr12 =>
 .s (.call [(60, 100)] [(900, 111)] (Spec.lend 60 3 1 j1.1.length (gT (fInt .i64) j1.1) _ (c_r27_column hr12) (args := [.c (.nm 60)]) rfl rfl rfl (by repeat (first | trivial | refine ⟨fun _ _ => ⟨_, rfl⟩, ?_⟩)))) <|
 .r 0 0 112 [4, 5, 6, 7, 66] [101, 102, 103, 104, 111] <|
 .bind (F_r27_PutBlock [] r12) fun r13 hr13 =>
 .s (.call [(61, 111)] [(900, 112)] (Spec.lend 61 5 1 r12.length (gT (fInt .u8) r12) _ ((c_r27_PutBlock hr13).nilArg 1 _ _ rfl rfl (by kernel_rfl)) (args := [xv (.slice none 0 0), .c (.nm 61)]) rfl rfl rfl (by repeat (first | trivial | refine ⟨fun _ _ => ⟨_, rfl⟩, ?_⟩)))) <|
 .r 0 1 113 [5, 6, 7, 67, 68] [101, 102, 103, 104, 112] <|
 .bind (F_r27_column j1.2.1) fun r14 hr14 =>
 .s (.call [(60, 101)] [(900, 113)] (Spec.lend 60 3 1 j1.2.1.length (gT (fInt .i64) j1.2.1) _ (c_r27_column hr14) (args := [.c (.nm 60)]) rfl rfl rfl (by repeat (first | trivial | refine ⟨fun _ _ => ⟨_, rfl⟩, ?_⟩)))) <|
 .r 0 0 114 [5, 6, 7, 67, 69] [102, 103, 104, 112, 113] <|
 .bind (F_r27_PutBlock r13 r14) fun r15 hr15 =>
 .s (.call [(61, 113), (1, 112)] [(900, 114)] (Spec.lend 61 5 1 r14.length (gT (fInt .u8) r14) _ (c_r27_PutBlock hr15) (args := [.c (.nm 1), .c (.nm 61)]) rfl rfl rfl (by repeat (first | trivial | refine ⟨fun _ _ => ⟨_, rfl⟩, ?_⟩)))) <|
 .r 0 1 115 [6, 7, 70, 71] [102, 103, 104, 114] <|
 .bind (F_r27_column j1.2.2.1) fun r16 hr16 =>
 .s (.call [(60, 102)] [(900, 115)] (Spec.lend 60 3 1 j1.2.2.1.length (gT (fInt .i64) j1.2.2.1) _ (c_r27_column hr16) (args := [.c (.nm 60)]) rfl rfl rfl (by repeat (first | trivial | refine ⟨fun _ _ => ⟨_, rfl⟩, ?_⟩)))) <|
 .r 0 0 116 [6, 7, 70, 72] [103, 104, 114, 115] <|
 .bind (F_r27_PutBlock r15 r16) fun r17 hr17 =>
 .s (.call [(61, 115), (1, 114)] [(900, 116)] (Spec.lend 61 5 1 r16.length (gT (fInt .u8) r16) _ (c_r27_PutBlock hr17) (args := [.c (.nm 1), .c (.nm 61)]) rfl rfl rfl (by repeat (first | trivial | refine ⟨fun _ _ => ⟨_, rfl⟩, ?_⟩)))) <|
 .r 0 1 117 [7, 73, 74] [103, 104, 116] <|
 .bind (F_r27_column j1.2.2.2.1) fun r18 hr18 =>
 .s (.call [(60, 103)] [(900, 117)] (Spec.lend 60 3 1 j1.2.2.2.1.length (gT (fInt .i64) j1.2.2.2.1) _ (c_r27_column hr18) (args := [.c (.nm 60)]) rfl rfl rfl (by repeat (first | trivial | refine ⟨fun _ _ => ⟨_, rfl⟩, ?_⟩)))) <|
 .r 0 0 118 [7, 73, 75] [104, 116, 117] <|
 .bind (F_r27_PutBlock r17 r18) fun r19 hr19 =>
 .s (.call [(61, 117), (1, 116)] [(900, 118)] (Spec.lend 61 5 1 r18.length (gT (fInt .u8) r18) _ (c_r27_PutBlock hr19) (args := [.c (.nm 1), .c (.nm 61)]) rfl rfl rfl (by repeat (first | trivial | refine ⟨fun _ _ => ⟨_, rfl⟩, ?_⟩)))) <|
 .r 0 1 119 [7, 11] [104, 118] <|
 .r 4 2 119 [77, 78] [104, 118] <|
 .gd ((r19.length + j1.2.2.2.2.length) * 1 ≤ 140737488355328) fun g20 =>
 .s (.appL (fInt .u8) (r19) (j1.2.2.2.2) (gT (fInt .u8) r19) (.inr rfl) 5 1 1 119 g20) <|
 .r 0 1 120 [2] [119] <|
 .s (.rn 119 900) <|
 .lf 3 [2] [900] (r19 ++ j1.2.2.2.2)
/-- logtide/logtideref27.lines -/
theorem c_r27_lines {p0 : List S_Event} {r : List Int} (h : F_r27_lines p0 = some r) : Spec Tryz.prog 73 [.c (.d (.ro 10 p0.length (gT fS_Event p0)))] [] (.c (.nm 900)) [(900, .rows 5 1 r.length (gT (fInt .u8) r))] :=
  Cert.spec [900] (fun r : List Int => .c (.nm 900)) (fun r => [(900, .rows 5 1 r.length (gT (fInt .u8) r))]) (z_r27_lines p0) Tryz.func73 rfl (by kernel_rfl) h
noncomputable def L_r11_Get_2 (p0 : List S_Field) (p1 : ByteArray) (j2 : Int) : Option ((Int) ⊕ ((Unit) ⊕ (ByteArray × Bool))) :=
 cond (decide (j2 < (p0.length : Int))) (
 gd ((0 : Int) ≤ j2 ∧ j2 < (p0.length : Int)) (
 cond (((p0.getD (Int.toNat j2) default).Name).toList == p1.toList) (
 some (.inr (.inr (((p0.getD (Int.toNat j2) default).Value, true))))) (
 some (.inl (IntKind.wrap .i64 (j2 + 1)))))) (
 some (.inr (.inl ())))
noncomputable def F_r11_Get (p0 : List S_Field) (p1 : ByteArray) : Option (ByteArray × Bool) :=
 bindE (σ := (Unit)) (
 loop (L_r11_Get_2 p0 p1) 0) fun j1 =>
 some ((ByteArray.mk #[]), false)
noncomputable def z_r11_Get (p0 : List S_Field) (p1 : ByteArray) : Cert Tryz.prog 25 (ByteArray × Bool) :=
 .r 2 2 100 [0, 1] [] <|
 .sq 2 (fun j1 : (Unit) => ⟨[], []⟩) (
 .r 2 1 100 [0, 1, 6] [] <|
 .s (.cn [0, 1, 6] []) <|
 .lp 3 (fun j2 : (Int) => ⟨[(0, .c (.d (.ro 2 p0.length (gT fS_Field p0)))), (1, xs p1), (6, xi j2)], []⟩) 0 fun j2 =>
 .r 3 4 100 [0, 1, 6, 10] [] <|
 .cond 2 (
 .gd ((0 : Int) ≤ j2 ∧ j2 < (p0.length : Int)) fun g1 =>
 .rp 6 7 100 [0, 1, 6, 19] [] (some (((0 : Int) ≤ j2 ∧ j2 < (p0.length : Int)))) (ob1 g1) <|
 .cond 2 (
 .rp 2 7 100 [4, 5] [] (some (((0 : Int) ≤ j2 ∧ j2 < (p0.length : Int)))) (ob1 g1) <|
 .lf 3 [4, 5] [] (.inr (.inr (((p0.getD (Int.toNat j2) default).Value, true))))
 ) (
 .r 4 3 100 [0, 1, 6] [] <|
 .lf 1 [0, 1, 6] [] (.inl (IntKind.wrap .i64 (j2 + 1)))
 )
 ) (
 .lf 1 [] [] (.inr (.inl ()))
 )
 ) fun j1 =>
 .r 2 2 100 [4, 5] [] <|
 .lf 3 [4, 5] [] ((ByteArray.mk #[]), false)
/-- logtide/logtideref11.Get -/
theorem c_r11_Get {p0 : List S_Field} {p1 : ByteArray} {r : ByteArray × Bool} (h : F_r11_Get p0 p1 = some r) : Spec Tryz.prog 120 [.c (.d (.ro 2 p0.length (gT fS_Field p0))), xs p1] [] (.tup [xs r.1, xb r.2]) [] :=
  Cert.spec [] (fun r : ByteArray × Bool => .tup [xs r.1, xb r.2]) (fun r => []) (z_r11_Get p0 p1) Tryz.func120 rfl (by kernel_rfl) h
end Go.Abs
