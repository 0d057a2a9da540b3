/- DERIVED. Printed by gen.py of this repo. -/
import Derived.Test.YtlhiaclmbegaiaaGreatF6
set_option linter.unusedVariables false
set_option linter.unusedSimpArgs false
set_option maxRecDepth 100000
namespace Go.Abs
open Go.Proofs
noncomputable def L_law33_scene_2 (p1 : Bool) (j2 : Int × S_draw_Codes × S_Manifest × List S_Blob) : Option ((Int × S_draw_Codes × S_Manifest × List S_Blob) ⊕ ((S_draw_Codes × S_Manifest × List S_Blob) ⊕ (List S_Blob × S_Manifest × S_draw_Codes))) :=
 cond (decide (j2.1 > 0)) (
 bindE (σ := (S_draw_Codes × S_Manifest × List S_Blob)) (
 bnd (F_draw_Codes_Events j2.2.1 2) fun r3 =>
 bnd (F_r27_Encode r3.1) fun r4 =>
 bindE (σ := (Int × Int)) (
 cond (decide ((r3.1.length : Int) > 0)) (
 gd ((0 : Int) ≤ 0 ∧ 0 < (r3.1.length : Int)) (
 gd (0 < r3.1.length) (
 gd ((0 : Int) ≤ (IntKind.wrap .i64 ((r3.1.length : Int) - 1)) ∧ (IntKind.wrap .i64 ((r3.1.length : Int) - 1)) < (r3.1.length : Int)) (
 some (.inl ((r3.1.getD 0 default).Time, (r3.1.getD (Int.toNat (IntKind.wrap .i64 ((r3.1.length : Int) - 1))) default).Time)))))) (
 some (.inl (0, 0)))) fun j4 =>
 bnd (F_draw_Codes_Next r3.2 3) fun r8 =>
 bnd (F_r30_Add j2.2.2.1 (⟨(0 : Int), (0 : Int), r8.1, (r3.1.length : Int), j4.1, j4.2, (r4.1.length : Int)⟩ : S_SegmentInfo)) fun r9 =>
 cond (r9.2 != 0) (
 some (.inl (r8.2, j2.2.2.1, j2.2.2.2))) (
 bindE (σ := (S_draw_Codes × List Int × S_Blob)) (
 bnd (cond p1 (F_draw_Codes_Next r8.2 4) (some (0, r8.2))) fun r10 =>
 cond (cond p1 (r10.1 == 3) false) (
 bnd (F_draw_Codes_Next r10.2 3) fun r11 =>
 cond (r11.1 == 0) (
 some (.inr (.inl (r11.2, r9.1, j2.2.2.2)))) (
 cond (r11.1 == 1) (
 bnd (F_draw_Codes_Next r11.2 256) fun r12 =>
 gd (((r4.1.length : Int) : Int) ≠ 0) (
 gd ((0 : Int) ≤ (Int.tmod r12.1 (r4.1.length : Int)) ∧ (Int.tmod r12.1 (r4.1.length : Int)) < (r4.1.length : Int)) (
 bd (r4.1.set (Int.toNat (Int.tmod r12.1 (r4.1.length : Int))) (IntKind.wrap .u8 ((BitVec.ofInt 8 (r4.1.getD (Int.toNat (Int.tmod r12.1 (r4.1.length : Int))) default) ^^^ BitVec.ofInt 8 1).toNat : Int))) fun x15 =>
 some (.inl (r12.2, x15, (⟨j2.2.2.1.NextID, r8.1, []⟩ : S_Blob)))))) (
 cond (r11.1 == 2) (
 bnd (F_draw_Codes_Next r11.2 3) fun r16 =>
 some (.inl (r16.2, r4.1, { (⟨j2.2.2.1.NextID, r8.1, []⟩ : S_Blob) with Tier := r16.1 }))) (
 some (.inl (r11.2, r4.1, (⟨j2.2.2.1.NextID, r8.1, []⟩ : S_Blob))))))) (
 some (.inl (r10.2, r4.1, (⟨j2.2.2.1.NextID, r8.1, []⟩ : S_Blob))))) fun j5 =>
 bnd (F_r33_Put j2.2.2.2 ({ j5.2.2 with Data := j5.2.1 })) fun r17 =>
 bnd (F_draw_Codes_Next j5.1 3) fun r18 =>
 cond (r18.1 == 2) (
 bnd (F_draw_Codes_Next r18.2 6) fun r19 =>
 bnd (F_draw_Codes_Next r19.2 3) fun r20 =>
 bnd (F_r33_Put r17 (⟨r19.1, r20.1, j5.2.1⟩ : S_Blob)) fun r21 =>
 some (.inl (r20.2, r9.1, r21))) (
 some (.inl (r18.2, r9.1, r17))))) fun j3 =>
 some (.inl ((IntKind.wrap .i64 (j2.1 - 1)), j3.1, j3.2.1, j3.2.2))) (
 some (.inr (.inl (j2.2.1, j2.2.2.1, j2.2.2.2))))
noncomputable def F_law33_scene (p0 : List Int) (p1 : Bool) : Option (List S_Blob × S_Manifest × S_draw_Codes) :=
 bnd (F_draw_New p0 500) fun r1 =>
 bindE (σ := (S_draw_Codes × S_Manifest × List S_Blob)) (
 bnd (F_draw_Codes_Next r1 4) fun r2 =>
 loop (L_law33_scene_2 p1) (r2.1, r2.2, (⟨(0 : Int), (0 : Int), (0 : Int), [], (⟨[], []⟩ : S_Intake), []⟩ : S_Manifest), ([] : List S_Blob))) fun j1 =>
 some (j1.2.2, j1.2.1, j1.1)
noncomputable def z_law33_scene (p0 : List Int) (p1 : Bool) : Cert Tryz.prog 117 (List S_Blob × S_Manifest × S_draw_Codes) :=
 .r 2 3 100 [0, 1, 5] [100] <|
 .r 4 1 101 [1, 5, 20] [100] <|
 .bind (F_draw_New p0 500) fun r1 hr1 =>
 .s (.call [] [(900, 101)] (c_draw_New hr1)) <|
 .r 0 1 102 [1, 5, 7] [100, 101] <|
 .r 4 1 102 [1, 5, 7, 8] [100, 101, 102] <|
 .r 4 1 103 [1, 5, 7, 8, 9] [100, 101, 102] <|
 .sq 2 (fun j1 : (S_draw_Codes × S_Manifest × List S_Blob) => ⟨[(5, .c (.np 100 7 0 0)), (7, .c (.np 101 2 0 0)), (8, .c (.np 102 7 0 0)), (9, .c (.nm 103))], [(100, .box 31 (((((bS_Manifest (⟨(0 : Int), (0 : Int), (0 : Int), [], (⟨[], []⟩ : S_Intake), []⟩ : S_Manifest)).set 3 (.d (.v (.slice none 0 0)))).set 4 (.d (.v (.slice none 0 0)))).set 5 (.d (.v (.slice none 0 0)))).set 6 (.d (.v (.slice none 0 0))))), (101, .box 76 (bS_draw_Codes j1.1)), (102, .box 31 (bS_Manifest j1.2.1)), (103, .rows 59 3 j1.2.2.length (gT fS_Blob j1.2.2))]⟩) (
 .r 2 1 103 [1, 5, 7, 8, 9, 22] [100, 101, 102] <|
 .bind (F_draw_Codes_Next r1 4) fun r2 hr2 =>
 .s (.call [(1, 101)] [] (c_draw_Codes_Next hr2)) <|
 .r 0 1 103 [1, 5, 7, 8, 9, 10] [100, 101, 102] <|
 .s (.own 9 103 59 3 (gT fS_Blob [])) <|
 .s (.impB 102 31 (((((bS_Manifest (⟨(0 : Int), (0 : Int), (0 : Int), [], (⟨[], []⟩ : S_Intake), []⟩ : S_Manifest)).set 3 (.d (.v (.slice none 0 0)))).set 4 (.d (.v (.slice none 0 0)))).set 5 (.d (.v (.slice none 0 0)))).set 6 (.d (.v (.slice none 0 0)))) (bS_Manifest (⟨(0 : Int), (0 : Int), (0 : Int), [], (⟨[], []⟩ : S_Intake), []⟩ : S_Manifest)) (CsImp.cons CImp.same (CsImp.cons CImp.same (CsImp.cons CImp.same (CsImp.cons CImp.nil (CsImp.cons CImp.nil (CsImp.cons CImp.nil (CsImp.cons CImp.nil CsImp.nil)))))))) <|
 .s (.cn [1, 5, 7, 8, 9, 10] [100, 101, 102, 103]) <|
 .lp 3 (fun j2 : (Int × S_draw_Codes × S_Manifest × List S_Blob) => ⟨[(1, xb p1), (5, .c (.np 100 7 0 0)), (7, .c (.np 101 2 0 0)), (8, .c (.np 102 7 0 0)), (9, .c (.nm 103)), (10, xi j2.1)], [(100, .box 31 (((((bS_Manifest (⟨(0 : Int), (0 : Int), (0 : Int), [], (⟨[], []⟩ : S_Intake), []⟩ : S_Manifest)).set 3 (.d (.v (.slice none 0 0)))).set 4 (.d (.v (.slice none 0 0)))).set 5 (.d (.v (.slice none 0 0)))).set 6 (.d (.v (.slice none 0 0))))), (101, .box 76 (bS_draw_Codes j2.2.1)), (102, .box 31 (bS_Manifest j2.2.2.1)), (103, .rows 59 3 j2.2.2.2.length (gT fS_Blob j2.2.2.2))]⟩) (r2.1, r2.2, (⟨(0 : Int), (0 : Int), (0 : Int), [], (⟨[], []⟩ : S_Intake), []⟩ : S_Manifest), ([] : List S_Blob)) fun j2 =>
 .r 3 2 104 [1, 5, 7, 8, 9, 10, 25] [100, 101, 102, 103] <|
 .cond 2 (
 .sq 2 (fun j3 : (S_draw_Codes × S_Manifest × List S_Blob) => ⟨[(1, xb p1), (5, .c (.np 100 7 0 0)), (7, .c (.np 101 2 0 0)), (8, .c (.np 102 7 0 0)), (9, .c (.nm 103)), (10, xi j2.1)], [(100, .box 31 (((((bS_Manifest (⟨(0 : Int), (0 : Int), (0 : Int), [], (⟨[], []⟩ : S_Intake), []⟩ : S_Manifest)).set 3 (.d (.v (.slice none 0 0)))).set 4 (.d (.v (.slice none 0 0)))).set 5 (.d (.v (.slice none 0 0)))).set 6 (.d (.v (.slice none 0 0))))), (101, .box 76 (bS_draw_Codes j3.1)), (102, .box 31 (bS_Manifest j3.2.1)), (103, .rows 59 3 j3.2.2.length (gT fS_Blob j3.2.2))]⟩) (
 .r 3 1 104 [1, 5, 7, 8, 9, 10, 28] [100, 101, 102, 103] <|
 .bind (F_draw_Codes_Events j2.2.1 2) fun r3 hr3 =>
 .s (.call [(1, 101)] [(900, 104)] (c_draw_Codes_Events hr3)) <|
 .r 0 1 105 [1, 5, 7, 8, 9, 10, 11] [100, 101, 102, 103, 104] <|
 .r 4 1 105 [1, 5, 7, 8, 9, 10, 11, 31] [100, 101, 102, 103, 104] <|
 .bind (F_r27_Encode r3.1) fun r4 hr4 =>
 .s (.call [(60, 104)] [(900, 105)] (Spec.lend 60 67 10 r3.1.length (gT fS_Event r3.1) _ (c_r27_Encode hr4) (args := [.c (.nm 60)]) rfl rfl rfl (by repeat (first | trivial | refine ⟨fun _ _ => ⟨_, rfl⟩, ?_⟩)))) <|
 .r 0 5 106 [1, 5, 7, 8, 9, 10, 11, 12] [100, 101, 102, 103, 104, 105] <|
 .r 4 2 106 [1, 5, 7, 8, 9, 10, 11, 12, 14, 15] [100, 101, 102, 103, 104, 105] <|
 .sq 2 (fun j4 : (Int × Int) => ⟨[(1, xb p1), (5, .c (.np 100 7 0 0)), (7, .c (.np 101 2 0 0)), (8, .c (.np 102 7 0 0)), (9, .c (.nm 103)), (10, xi j2.1), (11, .c (.nm 104)), (12, .c (.nm 105)), (14, xi j4.1), (15, xi j4.2)], [(100, .box 31 (((((bS_Manifest (⟨(0 : Int), (0 : Int), (0 : Int), [], (⟨[], []⟩ : S_Intake), []⟩ : S_Manifest)).set 3 (.d (.v (.slice none 0 0)))).set 4 (.d (.v (.slice none 0 0)))).set 5 (.d (.v (.slice none 0 0)))).set 6 (.d (.v (.slice none 0 0))))), (101, .box 76 (bS_draw_Codes r3.2)), (102, .box 31 (bS_Manifest j2.2.2.1)), (103, .rows 59 3 j2.2.2.2.length (gT fS_Blob j2.2.2.2)), (104, .rows 67 10 r3.1.length (gT fS_Event r3.1)), (105, .rows 5 1 r4.1.length (gT (fInt .u8) r4.1))]⟩) (
 .r 2 3 106 [1, 5, 7, 8, 9, 10, 11, 12, 14, 15, 37] [100, 101, 102, 103, 104, 105] <|
 .cond 2 (
 .s (.cn [1, 5, 7, 8, 9, 10, 11, 12] [100, 101, 102, 103, 104, 105]) <|
 .gd ((0 : Int) ≤ 0 ∧ 0 < (r3.1.length : Int)) fun g5 =>
 .gd (0 < r3.1.length) fun g6 =>
 .gd ((0 : Int) ≤ (IntKind.wrap .i64 ((r3.1.length : Int) - 1)) ∧ (IntKind.wrap .i64 ((r3.1.length : Int) - 1)) < (r3.1.length : Int)) fun g7 =>
 .s (.dr [] (let u1 := (IntKind.wrap .i64 ((r3.1.length : Int) - 1)); [(1, some (((0 : Int) ≤ 0 ∧ 0 < (r3.1.length : Int)))), (3, some ((0 < r3.1.length))), (8, some (((0 : Int) ≤ u1 ∧ u1 < (r3.1.length : Int)))), (10, some (((Int.toNat u1) < r3.1.length)))]) (obsAll.cons (ob1 g5) (obsAll.cons (ob1 g6) (obsAll.cons (ob1 g7) (obsAll.cons (ob1 (tn g7)) obsAll.nil)))) [1, 5, 7, 8, 9, 10, 11, 12, 14, 15] [100, 101, 102, 103, 104, 105]) <|
 .lf 1 [1, 5, 7, 8, 9, 10, 11, 12, 14, 15] [100, 101, 102, 103, 104, 105] (.inl ((r3.1.getD 0 default).Time, (r3.1.getD (Int.toNat (IntKind.wrap .i64 ((r3.1.length : Int) - 1))) default).Time))
 ) (
 .lf 1 [1, 5, 7, 8, 9, 10, 11, 12, 14, 15] [100, 101, 102, 103, 104, 105] (.inl (0, 0))
 )
 ) fun j4 =>
 .r 2 1 106 [1, 5, 7, 8, 9, 10, 11, 12, 14, 15, 49] [100, 101, 102, 103, 104, 105] <|
 .bind (F_draw_Codes_Next r3.2 3) fun r8 hr8 =>
 .s (.call [(1, 101)] [] (c_draw_Codes_Next hr8)) <|
 .r 0 1 106 [1, 5, 7, 8, 9, 10, 11, 12, 14, 15, 16] [100, 101, 102, 103, 104, 105] <|
 .r 4 9 106 [1, 5, 7, 8, 9, 10, 12, 16, 52, 60] [100, 101, 102, 103, 105] <|
 .bind (F_r30_Add j2.2.2.1 (⟨(0 : Int), (0 : Int), r8.1, (r3.1.length : Int), j4.1, j4.2, (r4.1.length : Int)⟩ : S_SegmentInfo)) fun r9 hr9 =>
 .s (.call [] [] (c_r30_Add hr9)) <|
 .r 0 6 106 [1, 5, 7, 8, 9, 10, 12, 16, 17, 18] [100, 101, 102, 103, 105, 106] <|
 .r 5 2 107 [1, 5, 7, 8, 9, 10, 12, 16, 17, 65] [100, 101, 102, 103, 105, 106] <|
 .cond 2 (
 .lf 1 [1, 5, 7, 8, 9, 10] [100, 101, 102, 103] (.inl (r8.2, j2.2.2.1, j2.2.2.2))
 ) (
 .r 4 7 107 [1, 5, 7, 8, 9, 10, 12, 17, 19] [100, 101, 102, 103, 105, 106, 107] <|
 .r 4 2 108 [1, 5, 7, 8, 9, 10, 12, 19] [100, 101, 102, 103, 105, 107] <|
 .sq 2 (fun j5 : (S_draw_Codes × List Int × S_Blob) => ⟨[(1, xb p1), (5, .c (.np 100 7 0 0)), (7, .c (.np 101 2 0 0)), (8, .c (.np 102 7 0 0)), (9, .c (.nm 103)), (10, xi j2.1), (12, .c (.nm 105)), (19, .c (.np 107 3 0 0))], [(100, .box 31 (((((bS_Manifest (⟨(0 : Int), (0 : Int), (0 : Int), [], (⟨[], []⟩ : S_Intake), []⟩ : S_Manifest)).set 3 (.d (.v (.slice none 0 0)))).set 4 (.d (.v (.slice none 0 0)))).set 5 (.d (.v (.slice none 0 0)))).set 6 (.d (.v (.slice none 0 0))))), (101, .box 76 (bS_draw_Codes j5.1)), (102, .box 31 (bS_Manifest r9.1)), (103, .rows 59 3 j2.2.2.2.length (gT fS_Blob j2.2.2.2)), (105, .rows 5 1 j5.2.1.length (gT (fInt .u8) j5.2.1)), (107, .box 59 ((bS_Blob j5.2.2).set 2 (.nm 105)))]⟩) (
 .r 2 3 108 [1, 5, 7, 8, 9, 10, 12, 19, 73, 74] [100, 101, 102, 103, 105, 107] <|
 .s (.cn [1, 5, 7, 8, 9, 10, 12, 19, 73, 74] [101, 100, 102, 103, 105, 107]) <|
 .callG p1 (F_draw_Codes_Next r8.2 4) (0, r8.2) [(1, 101)] (some ((p1 = true → p1 = true))) (ob1 (fun h => h)) (fun r h => (c_draw_Codes_Next h)) fun r10 =>
 .rp 0 2 108 [1, 5, 7, 8, 9, 10, 12, 19, 77] [100, 101, 102, 103, 105, 107] (some (((p1 = true → p1 = true) ∧ (p1 = true → p1 = true)))) (ob1 (⟨fun h => h, (fun h => h)⟩)) <|
 .cond 2 (
 .r 2 1 108 [1, 5, 7, 8, 9, 10, 12, 19, 78] [100, 101, 102, 103, 105, 107] <|
 .bind (F_draw_Codes_Next r10.2 3) fun r11 hr11 =>
 .s (.call [(1, 101)] [] (c_draw_Codes_Next hr11)) <|
 .r 0 0 108 [1, 5, 7, 8, 9, 10, 12, 19, 79] [100, 101, 102, 103, 105, 107] <|
 .r 5 2 108 [1, 5, 7, 8, 9, 10, 12, 19, 79, 80] [100, 101, 102, 103, 105, 107] <|
 .cond 2 (
 .lf 1 [1, 5, 7, 8, 9, 10] [100, 101, 102, 103] (.inr (.inl (r11.2, r9.1, j2.2.2.2)))
 ) (
 .r 2 2 108 [1, 5, 7, 8, 9, 10, 12, 19, 79, 82] [100, 101, 102, 103, 105, 107] <|
 .cond 2 (
 .s (.cn [1, 5, 7, 8, 9, 10, 12, 19] [100, 101, 102, 103, 105, 107]) <|
 .bind (F_draw_Codes_Next r11.2 256) fun r12 hr12 =>
 .gd (((r4.1.length : Int) : Int) ≠ 0) fun g13 =>
 .gd ((0 : Int) ≤ (Int.tmod r12.1 (r4.1.length : Int)) ∧ (Int.tmod r12.1 (r4.1.length : Int)) < (r4.1.length : Int)) fun g14 =>
 .s (.dr [.call 3 [(1, 101)] [] (c_draw_Codes_Next hr12), .stR (fInt .u8) r4.1 11 105 5 1 (Int.toNat (Int.tmod r12.1 (r4.1.length : Int))) 0 (IntKind.wrap .u8 ((BitVec.ofInt 8 (r4.1.getD (Int.toNat (Int.tmod r12.1 (r4.1.length : Int))) default) ^^^ BitVec.ofInt 8 1).toNat : Int)) (tn g14)] (let u1 := (Int.tmod r12.1 (r4.1.length : Int)); let u2 := (((0 : Int) ≤ u1 ∧ u1 < (r4.1.length : Int))); [(6, some ((((r4.1.length : Int) : Int) ≠ 0))), (7, some u2), (8, some (((Int.toNat u1) < r4.1.length))), (10, some u2)]) (obsAll.cons (ob1 g13) (obsAll.cons (ob1 g14) (obsAll.cons (ob1 (tn g14)) (obsAll.cons (ob1 g14) obsAll.nil)))) [1, 5, 7, 8, 9, 10, 12, 19] [100, 101, 102, 103, 105, 107]) <|
 .bh ((r4.1.set (Int.toNat (Int.tmod r12.1 (r4.1.length : Int))) (IntKind.wrap .u8 ((BitVec.ofInt 8 (r4.1.getD (Int.toNat (Int.tmod r12.1 (r4.1.length : Int))) default) ^^^ BitVec.ofInt 8 1).toNat : Int)))) 105 (fun x15 => .rows 5 1 x15.length (gT (fInt .u8) x15)) fun x15 =>
 .lf 1 [1, 5, 7, 8, 9, 10, 12, 19] [100, 101, 102, 103, 105, 107] (.inl (r12.2, x15, (⟨j2.2.2.1.NextID, r8.1, []⟩ : S_Blob)))
 ) (
 .r 2 2 108 [1, 5, 7, 8, 9, 10, 12, 19, 95] [100, 101, 102, 103, 105, 107] <|
 .cond 2 (
 .r 1 1 108 [1, 5, 7, 8, 9, 10, 12, 19, 97] [100, 101, 102, 103, 105, 107] <|
 .bind (F_draw_Codes_Next r11.2 3) fun r16 hr16 =>
 .s (.call [(1, 101)] [] (c_draw_Codes_Next hr16)) <|
 .r 0 2 108 [1, 5, 7, 8, 9, 10, 12, 19] [100, 101, 102, 103, 105, 107] <|
 .lf 1 [1, 5, 7, 8, 9, 10, 12, 19] [100, 101, 102, 103, 105, 107] (.inl (r16.2, r4.1, { (⟨j2.2.2.1.NextID, r8.1, []⟩ : S_Blob) with Tier := r16.1 }))
 ) (
 .lf 1 [1, 5, 7, 8, 9, 10, 12, 19] [100, 101, 102, 103, 105, 107] (.inl (r11.2, r4.1, (⟨j2.2.2.1.NextID, r8.1, []⟩ : S_Blob)))
 )
 )
 )
 ) (
 .lf 1 [1, 5, 7, 8, 9, 10, 12, 19] [100, 101, 102, 103, 105, 107] (.inl (r10.2, r4.1, (⟨j2.2.2.1.NextID, r8.1, []⟩ : S_Blob)))
 )
 ) fun j5 =>
 .r 2 2 108 [1, 5, 7, 8, 10, 12, 100, 101] [100, 101, 102, 103, 105] <|
 .s (.fz 103) <|
 .s (.fz 105) <|
 .bind (F_r33_Put j2.2.2.2 ({ j5.2.2 with Data := j5.2.1 })) fun r17 hr17 =>
 .s (.call [] [(900, 108)] (c_r33_Put hr17)) <|
 .r 0 1 109 [1, 5, 7, 8, 9, 10, 12] [100, 101, 102, 108] <|
 .r 4 1 109 [1, 5, 7, 8, 9, 10, 12, 103] [100, 101, 102, 108] <|
 .bind (F_draw_Codes_Next j5.1 3) fun r18 hr18 =>
 .s (.call [(1, 101)] [] (c_draw_Codes_Next hr18)) <|
 .r 0 1 109 [1, 5, 7, 8, 9, 10, 12, 105] [100, 101, 102, 108] <|
 .cond 2 (
 .r 1 2 109 [1, 5, 7, 8, 10, 12, 106, 107] [100, 101, 102, 108] <|
 .bind (F_draw_Codes_Next r18.2 6) fun r19 hr19 =>
 .s (.call [(1, 101)] [] (c_draw_Codes_Next hr19)) <|
 .r 0 1 109 [1, 5, 7, 8, 10, 12, 106, 108, 109] [100, 101, 102, 108] <|
 .bind (F_draw_Codes_Next r19.2 3) fun r20 hr20 =>
 .s (.call [(1, 101)] [] (c_draw_Codes_Next hr20)) <|
 .r 0 2 109 [1, 5, 7, 8, 10, 106, 112] [100, 101, 102, 108] <|
 .s (.fz 108) <|
 .bind (F_r33_Put r17 (⟨r19.1, r20.1, j5.2.1⟩ : S_Blob)) fun r21 hr21 =>
 .s (.call [] [(900, 109)] (c_r33_Put hr21)) <|
 .r 0 1 110 [1, 5, 7, 8, 9, 10] [100, 101, 102, 109] <|
 .s (.cn [1, 5, 7, 8, 9, 10] [100, 101, 102, 109]) <|
 .s (.rn 109 103) <|
 .lf 1 [1, 5, 7, 8, 9, 10] [100, 101, 102, 103] (.inl (r20.2, r9.1, r21))
 ) (
 .s (.cn [1, 5, 7, 8, 9, 10] [100, 101, 102, 108]) <|
 .s (.rn 108 103) <|
 .lf 1 [1, 5, 7, 8, 9, 10] [100, 101, 102, 103] (.inl (r18.2, r9.1, r17))
 )
 )
 ) fun j3 =>
 .r 1 3 110 [1, 5, 7, 8, 9, 10] [100, 101, 102, 103] <|
 .lf 1 [1, 5, 7, 8, 9, 10] [100, 101, 102, 103] (.inl ((IntKind.wrap .i64 (j2.1 - 1)), j3.1, j3.2.1, j3.2.2))
 ) (
 .lf 1 [5, 7, 8, 9] [100, 101, 102, 103] (.inr (.inl (j2.2.1, j2.2.2.1, j2.2.2.2)))
 )
 ) fun j1 =>
 .s (.cn [5, 7, 8, 9] [100, 101, 102, 103]) <|
 .m 1 <|
 .s (.dr [.stB 4 100 7 0 31 (((((bS_Manifest (⟨(0 : Int), (0 : Int), (0 : Int), [], (⟨[], []⟩ : S_Intake), []⟩ : S_Manifest)).set 3 (.d (.v (.slice none 0 0)))).set 4 (.d (.v (.slice none 0 0)))).set 5 (.d (.v (.slice none 0 0)))).set 6 (.d (.v (.slice none 0 0)))) (bS_Manifest j1.2.1)] ([]) obsAll.nil [4, 5, 6] [100, 101, 103]) <|
 .s (.rn 103 900) <|
 .s (.rn 101 902) <|
 .lf 3 [4, 5, 6] [100, 900, 902] (j1.2.2, j1.2.1, j1.1)
/-- logtide/logtidelaw33.scene -/
theorem c_law33_scene {p0 : List Int} {p1 : Bool} {r : List S_Blob × S_Manifest × S_draw_Codes} (h : F_law33_scene p0 p1 = some r) : Spec Tryz.prog 7 [.c (.d (.ro 1 p0.length (gT (fInt .u8) p0))), xb p1] [] (.tup [.c (.nm 900), .agg (bS_Manifest r.2.1), .c (.np 902 2 0 0)]) [(900, .rows 59 3 r.1.length (gT fS_Blob r.1)), (902, .box 76 (bS_draw_Codes r.2.2))] :=
  Cert.spec [900, 902] (fun r : List S_Blob × S_Manifest × S_draw_Codes => .tup [.c (.nm 900), .agg (bS_Manifest r.2.1), .c (.np 902 2 0 0)]) (fun r => [(900, .rows 59 3 r.1.length (gT fS_Blob r.1)), (902, .box 76 (bS_draw_Codes r.2.2))]) (z_law33_scene p0 p1) Tryz.func7 rfl (by kernel_rfl) h
noncomputable def L_r23_SameBytes_2 (p0 : List Int) (p1 : List Int) (j2 : Int) : Option ((Int) ⊕ ((Unit) ⊕ (Bool))) :=
 cond (decide (j2 < (p0.length : Int))) (
 gd ((0 : Int) ≤ j2 ∧ j2 < (p0.length : Int)) (
 gd ((0 : Int) ≤ j2 ∧ j2 < (p1.length : Int)) (
 cond ((p0.getD (Int.toNat j2) default) != (p1.getD (Int.toNat j2) default)) (
 some (.inr (.inr (false)))) (
 some (.inl (IntKind.wrap .i64 (j2 + 1))))))) (
 some (.inr (.inl ())))
noncomputable def F_r23_SameBytes (p0 : List Int) (p1 : List Int) : Option (Bool) :=
 cond ((p0.length : Int) != (p1.length : Int)) (
 some false) (
 bindE (σ := (Unit)) (
 loop (L_r23_SameBytes_2 p0 p1) 0) fun j1 =>
 some true)
noncomputable def z_r23_SameBytes (p0 : List Int) (p1 : List Int) : Cert Tryz.prog 26 (Bool) :=
 .r 2 1 100 [0, 1] [] <|
 .r 5 5 100 [0, 1, 10] [] <|
 .cond 2 (
 .r 2 1 100 [4] [] <|
 .lf 3 [4] [] false
 ) (
 .sq 2 (fun j1 : (Unit) => ⟨[], []⟩) (
 .r 2 1 100 [0, 1, 5] [] <|
 .s (.cn [0, 1, 5] []) <|
 .lp 3 (fun j2 : (Int) => ⟨[(0, .c (.d (.ro 1 p0.length (gT (fInt .u8) p0)))), (1, .c (.d (.ro 1 p1.length (gT (fInt .u8) p1)))), (5, xi j2)], []⟩) 0 fun j2 =>
 .r 3 4 100 [0, 1, 5, 14] [] <|
 .cond 2 (
 .s (.cn [0, 1, 5] []) <|
 .gd ((0 : Int) ≤ j2 ∧ j2 < (p0.length : Int)) fun g1 =>
 .gd ((0 : Int) ≤ j2 ∧ j2 < (p1.length : Int)) fun g2 =>
 .m 5 <|
 .s (.dr [] ([(2, some (((0 : Int) ≤ j2 ∧ j2 < (p0.length : Int)))), (6, some (((0 : Int) ≤ j2 ∧ j2 < (p1.length : Int))))]) (obsAll.cons (ob1 g1) (obsAll.cons (ob1 g2) obsAll.nil)) [0, 1, 5, 25] []) <|
 .cond 2 (
 .r 2 1 100 [4] [] <|
 .lf 3 [4] [] (.inr (.inr (false)))
 ) (
 .r 4 3 100 [0, 1, 5] [] <|
 .lf 1 [0, 1, 5] [] (.inl (IntKind.wrap .i64 (j2 + 1)))
 )
 ) (
 .lf 1 [] [] (.inr (.inl ()))
 )
 ) fun j1 =>
 .r 2 1 100 [4] [] <|
 .lf 3 [4] [] true
 )
/-- logtide/logtideref23.SameBytes -/
theorem c_r23_SameBytes {p0 : List Int} {p1 : List Int} {r : Bool} (h : F_r23_SameBytes p0 p1 = some r) : Spec Tryz.prog 14 [.c (.d (.ro 1 p0.length (gT (fInt .u8) p0))), .c (.d (.ro 1 p1.length (gT (fInt .u8) p1)))] [] (xb r) [] :=
  Cert.spec [] (fun r : Bool => xb r) (fun r => []) (z_r23_SameBytes p0 p1) Tryz.func14 rfl (by kernel_rfl) h
noncomputable def L_r33_Same_2 (p0 : List S_Blob) (p1 : List S_Blob) (j2 : Int) : Option ((Int) ⊕ ((Unit) ⊕ (Bool))) :=
 cond (decide (j2 < (p0.length : Int))) (
 gd ((0 : Int) ≤ j2 ∧ j2 < (p0.length : Int)) (
 gd ((0 : Int) ≤ j2 ∧ j2 < (p1.length : Int)) (
 gd ((!(((p0.getD (Int.toNat j2) default).ID) != ((p1.getD (Int.toNat j2) default).ID))) = true → (0 : Int) ≤ j2 ∧ j2 < (p0.length : Int)) (
 gd ((!(((p0.getD (Int.toNat j2) default).ID) != ((p1.getD (Int.toNat j2) default).ID))) = true → (0 : Int) ≤ j2 ∧ j2 < (p1.length : Int)) (
 gd ((!(cond (((p0.getD (Int.toNat j2) default).ID) != ((p1.getD (Int.toNat j2) default).ID)) true (((p0.getD (Int.toNat j2) default).Tier) != ((p1.getD (Int.toNat j2) default).Tier)))) = true → (0 : Int) ≤ j2 ∧ j2 < (p0.length : Int)) (
 gd ((!(cond (((p0.getD (Int.toNat j2) default).ID) != ((p1.getD (Int.toNat j2) default).ID)) true (((p0.getD (Int.toNat j2) default).Tier) != ((p1.getD (Int.toNat j2) default).Tier)))) = true → (0 : Int) ≤ j2 ∧ j2 < (p1.length : Int)) (
 bnd (cond (!(cond (((p0.getD (Int.toNat j2) default).ID) != ((p1.getD (Int.toNat j2) default).ID)) true (((p0.getD (Int.toNat j2) default).Tier) != ((p1.getD (Int.toNat j2) default).Tier)))) (F_r23_SameBytes ((p0.getD (Int.toNat j2) default).Data) ((p1.getD (Int.toNat j2) default).Data)) (some (false))) fun r7 =>
 bd (cond (cond (((p0.getD (Int.toNat j2) default).ID) != ((p1.getD (Int.toNat j2) default).ID)) true (((p0.getD (Int.toNat j2) default).Tier) != ((p1.getD (Int.toNat j2) default).Tier))) true (!r7)) fun x8 =>
 cond x8 (
 some (.inr (.inr (false)))) (
 some (.inl (IntKind.wrap .i64 (j2 + 1))))))))))) (
 some (.inr (.inl ())))
noncomputable def F_r33_Same (p0 : List S_Blob) (p1 : List S_Blob) : Option (Bool) :=
 cond ((p0.length : Int) != (p1.length : Int)) (
 some false) (
 bindE (σ := (Unit)) (
 loop (L_r33_Same_2 p0 p1) 0) fun j1 =>
 some true)
noncomputable def z_r33_Same (p0 : List S_Blob) (p1 : List S_Blob) : Cert Tryz.prog 55 (Bool) :=
 .r 2 1 100 [0, 1] [] <|
 .r 5 5 100 [0, 1, 10] [] <|
 .cond 2 (
 .r 2 1 100 [4] [] <|
 .lf 3 [4] [] false
 ) (
 .sq 2 (fun j1 : (Unit) => ⟨[], []⟩) (
 .r 2 1 100 [0, 1, 5] [] <|
 .s (.cn [0, 1, 5] []) <|
 .lp 3 (fun j2 : (Int) => ⟨[(0, .c (.d (.ro 3 p0.length (gT fS_Blob p0)))), (1, .c (.d (.ro 3 p1.length (gT fS_Blob p1)))), (5, xi j2)], []⟩) 0 fun j2 =>
 .r 3 4 100 [0, 1, 5, 14] [] <|
 .cond 2 (
 .s (.cn [0, 1, 5] []) <|
 .gd ((0 : Int) ≤ j2 ∧ j2 < (p0.length : Int)) fun g1 =>
 .gd ((0 : Int) ≤ j2 ∧ j2 < (p1.length : Int)) fun g2 =>
 .gd ((!(((p0.getD (Int.toNat j2) default).ID) != ((p1.getD (Int.toNat j2) default).ID))) = true → (0 : Int) ≤ j2 ∧ j2 < (p0.length : Int)) fun g3 =>
 .gd ((!(((p0.getD (Int.toNat j2) default).ID) != ((p1.getD (Int.toNat j2) default).ID))) = true → (0 : Int) ≤ j2 ∧ j2 < (p1.length : Int)) fun g4 =>
 .gd ((!(cond (((p0.getD (Int.toNat j2) default).ID) != ((p1.getD (Int.toNat j2) default).ID)) true (((p0.getD (Int.toNat j2) default).Tier) != ((p1.getD (Int.toNat j2) default).Tier)))) = true → (0 : Int) ≤ j2 ∧ j2 < (p0.length : Int)) fun g5 =>
 .gd ((!(cond (((p0.getD (Int.toNat j2) default).ID) != ((p1.getD (Int.toNat j2) default).ID)) true (((p0.getD (Int.toNat j2) default).Tier) != ((p1.getD (Int.toNat j2) default).Tier)))) = true → (0 : Int) ≤ j2 ∧ j2 < (p1.length : Int)) fun g6 =>
 .bind (cond (!(cond (((p0.getD (Int.toNat j2) default).ID) != ((p1.getD (Int.toNat j2) default).ID)) true (((p0.getD (Int.toNat j2) default).Tier) != ((p1.getD (Int.toNat j2) default).Tier)))) (F_r23_SameBytes ((p0.getD (Int.toNat j2) default).Data) ((p1.getD (Int.toNat j2) default).Data)) (some (false))) fun r7 hr7 =>
 .m 5 <|
 .s (.dr [.callG 35 (!(cond (((p0.getD (Int.toNat j2) default).ID) != ((p1.getD (Int.toNat j2) default).ID)) true (((p0.getD (Int.toNat j2) default).Tier) != ((p1.getD (Int.toNat j2) default).Tier)))) (F_r23_SameBytes ((p0.getD (Int.toNat j2) default).Data) ((p1.getD (Int.toNat j2) default).Data)) (false) r7 hr7 [] (let u1 := (!(cond (((p0.getD (Int.toNat j2) default).ID) != ((p1.getD (Int.toNat j2) default).ID)) true (((p0.getD (Int.toNat j2) default).Tier) != ((p1.getD (Int.toNat j2) default).Tier)))); some (((u1 = true → u1 = true) ∧ (u1 = true → u1 = true)))) (ob1 (⟨fun h => h, fun h => h⟩)) (fun r h => (c_r23_SameBytes h))] (let u2 := (((p0.getD (Int.toNat j2) default).ID) != ((p1.getD (Int.toNat j2) default).ID)); let u1 := (cond u2 true (((p0.getD (Int.toNat j2) default).Tier) != ((p1.getD (Int.toNat j2) default).Tier))); let u3 := ((!u2) = true → (!u2) = true); let u4 := ((!u1) = true → (!u1) = true); [(2, some (((0 : Int) ≤ j2 ∧ j2 < (p0.length : Int)))), (7, some (((0 : Int) ≤ j2 ∧ j2 < (p1.length : Int)))), (14, some (((u3 ∧ u3) ∧ ((!u2) = true → (0 : Int) ≤ j2 ∧ j2 < (p0.length : Int))))), (15, some (u3)), (16, some (u3)), (19, some (((u3 ∧ u3) ∧ ((!u2) = true → (0 : Int) ≤ j2 ∧ j2 < (p1.length : Int))))), (20, some (u3)), (21, some (u3)), (22, some ((u3 ∧ u3))), (23, some ((u2 = false → (!u2) = true))), (27, some (((u4 ∧ u4) ∧ ((!u1) = true → (0 : Int) ≤ j2 ∧ j2 < (p0.length : Int))))), (28, some (u4)), (29, some (u4)), (32, some (((u4 ∧ u4) ∧ ((!u1) = true → (0 : Int) ≤ j2 ∧ j2 < (p1.length : Int))))), (33, some (u4)), (34, some (u4)), (36, some (u4)), (37, some ((u1 = false → (!u1) = true)))]) (obsAll.cons (ob1 g1) (obsAll.cons (ob1 g2) (obsAll.cons (ob1 (⟨⟨fun h => h, fun h => h⟩, g3⟩)) (obsAll.cons (ob1 (fun h => h)) (obsAll.cons (ob1 (fun h => h)) (obsAll.cons (ob1 (⟨⟨fun h => h, fun h => h⟩, g4⟩)) (obsAll.cons (ob1 (fun h => h)) (obsAll.cons (ob1 (fun h => h)) (obsAll.cons (ob1 (⟨fun h => h, fun h => h⟩)) (obsAll.cons (ob1 (fun h => by rw [h]; rfl)) (obsAll.cons (ob1 (⟨⟨fun h => h, fun h => h⟩, g5⟩)) (obsAll.cons (ob1 (fun h => h)) (obsAll.cons (ob1 (fun h => h)) (obsAll.cons (ob1 (⟨⟨fun h => h, fun h => h⟩, g6⟩)) (obsAll.cons (ob1 (fun h => h)) (obsAll.cons (ob1 (fun h => h)) (obsAll.cons (ob1 (fun h => h)) (obsAll.cons (ob1 (fun h => by rw [h]; rfl)) obsAll.nil)))))))))))))))))) [0, 1, 5, 54] []) <|
 .bs ((cond (cond (((p0.getD (Int.toNat j2) default).ID) != ((p1.getD (Int.toNat j2) default).ID)) true (((p0.getD (Int.toNat j2) default).Tier) != ((p1.getD (Int.toNat j2) default).Tier))) true (!r7))) [54] xb fun x8 =>
 .cond 2 (
 .r 2 1 100 [4] [] <|
 .lf 3 [4] [] (.inr (.inr (false)))
 ) (
 .r 4 3 100 [0, 1, 5] [] <|
 .lf 1 [0, 1, 5] [] (.inl (IntKind.wrap .i64 (j2 + 1)))
 )
 ) (
 .lf 1 [] [] (.inr (.inl ()))
 )
 ) fun j1 =>
 .r 2 1 100 [4] [] <|
 .lf 3 [4] [] true
 )
/-- logtide/logtideref33.Same -/
theorem c_r33_Same {p0 : List S_Blob} {p1 : List S_Blob} {r : Bool} (h : F_r33_Same p0 p1 = some r) : Spec Tryz.prog 8 [.c (.d (.ro 3 p0.length (gT fS_Blob p0))), .c (.d (.ro 3 p1.length (gT fS_Blob p1)))] [] (xb r) [] :=
  Cert.spec [] (fun r : Bool => xb r) (fun r => []) (z_r33_Same p0 p1) Tryz.func8 rfl (by kernel_rfl) h
noncomputable def F_slices_Clone_api_Blob_api_Blob (p0 : List S_Blob) : Option (List S_Blob) :=
 eqn p0.length fun x1 =>
 cond x1 (
 some ([] : List S_Blob)) (
 gd ((([] : List S_Blob).length + p0.length) * 40 ≤ 140737488355328) (
 some (([] : List S_Blob) ++ p0)))
noncomputable def z_slices_Clone_api_Blob_api_Blob (p0 : List S_Blob) : Cert Tryz.prog 8 (List S_Blob) :=
 .r 2 1 100 [0] [] <|
 .r 5 1 100 [0, 3] [] <|
 .eqNil (p0.length) fun x1 =>
 .r 0 0 100 [0, 4] [] <|
 .cond 2 (
 .r 2 1 100 [2] [] <|
 .s (.own 2 100 59 3 (gT fS_Blob [])) <|
 .s (.rn 100 900) <|
 .lf 3 [2] [900] ([] : List S_Blob)
 ) (
 .r 4 0 101 [0] [] <|
 .s (.build0 fS_Blob 59 3 101) <|
 .r 0 1 102 [5, 6] [101] <|
 .gd ((([] : List S_Blob).length + p0.length) * 40 ≤ 140737488355328) fun g2 =>
 .s (.appL fS_Blob (([] : List S_Blob)) (p0) (gT fS_Blob ([] : List S_Blob)) (.inr rfl) 59 3 40 102 g2) <|
 .r 0 1 103 [2] [102] <|
 .s (.rn 102 900) <|
 .lf 3 [2] [900] (([] : List S_Blob) ++ p0)
 )
/-- slices.Clone[[]logtide/api.Blob,logtide/api.Blob] -/
theorem c_slices_Clone_api_Blob_api_Blob {p0 : List S_Blob} {r : List S_Blob} (h : F_slices_Clone_api_Blob_api_Blob p0 = some r) : Spec Tryz.prog 28 [.c (.d (.ro 3 p0.length (gT fS_Blob p0)))] [] (.c (.nm 900)) [(900, .rows 59 3 r.length (gT fS_Blob r))] :=
  Cert.spec [900] (fun r : List S_Blob => .c (.nm 900)) (fun r => [(900, .rows 59 3 r.length (gT fS_Blob r))]) (z_slices_Clone_api_Blob_api_Blob p0) Tryz.func28 rfl (by kernel_rfl) h
noncomputable def F_manifest_index_1 (p0 : S_SegmentInfo) (p1 : Int) : Option (Bool) :=
 some (p0.ID == p1)
noncomputable def z_manifest_index_1 (p0 : S_SegmentInfo) (p1 : Int) : Cert Tryz.prog 8 (Bool) :=
 .r 2 2 100 [1, 2] [100] <|
 .r 4 5 101 [3] [] <|
 .lf 3 [3] [] (p0.ID == p1)
/-- logtide/manifest.index$1 -/
theorem c_manifest_index_1 {p0 : S_SegmentInfo} {p1 : Int} {r : Bool} (h : F_manifest_index_1 p0 p1 = some r) : Spec Tryz.prog 82 [.agg (bS_SegmentInfo p0), .c (.d (.rp 1 ((fInt .i64) p1)))] [] (xb r) [] :=
  Cert.spec [] (fun r : Bool => xb r) (fun r => []) (z_manifest_index_1 p0 p1) Tryz.func82 rfl (by kernel_rfl) h
noncomputable def L_slices_IndexFunc_api_SegmentInfo_api_SegmentInfo_w_manifest_index_1_2 (p0 : List S_SegmentInfo) (p200 : Int) (j2 : Int) : Option ((Int) ⊕ ((Unit) ⊕ (Int))) :=
 cond (decide (j2 < (p0.length : Int))) (
 gd ((0 : Int) ≤ j2 ∧ j2 < (p0.length : Int)) (
 bnd (F_manifest_index_1 (p0.getD (Int.toNat j2) default) p200) fun r2 =>
 cond r2 (
 some (.inr (.inr (j2)))) (
 some (.inl (IntKind.wrap .i64 (j2 + 1)))))) (
 some (.inr (.inl ())))
noncomputable def F_slices_IndexFunc_api_SegmentInfo_api_SegmentInfo_w_manifest_index_1 (p0 : List S_SegmentInfo) (p200 : Int) : Option (Int) :=
 bindE (σ := (Unit)) (
 loop (L_slices_IndexFunc_api_SegmentInfo_api_SegmentInfo_w_manifest_index_1_2 p0 p200) 0) fun j1 =>
 some (-1)
noncomputable def z_slices_IndexFunc_api_SegmentInfo_api_SegmentInfo_w_manifest_index_1 (p0 : List S_SegmentInfo) (p200 : Int) : Cert Tryz.prog 19 (Int) :=
 .r 2 1 100 [0, 1] [] <|
 .sq 2 (fun j1 : (Unit) => ⟨[], []⟩) (
 .r 2 3 100 [0, 1, 7, 8] [] <|
 .s (.cn [0, 1, 7, 8] []) <|
 .lp 3 (fun j2 : (Int) => ⟨[(0, .c (.d (.ro 7 p0.length (gT fS_SegmentInfo p0)))), (1, .c (.d (.fn 82 1 (capN [1]) (capG [(fInt .i64) p200])))), (7, xi (p0.length : Int)), (8, xi j2)], []⟩) 0 fun j2 =>
 .r 2 1 100 [0, 1, 7, 8, 9] [] <|
 .cond 3 (
 .r 6 2 100 [0, 1, 5, 7, 8] [] <|
 .gd ((0 : Int) ≤ j2 ∧ j2 < (p0.length : Int)) fun g1 =>
 .rp 4 5 100 [0, 1, 5, 7, 8, 11, 15] [] (some (((0 : Int) ≤ j2 ∧ j2 < (p0.length : Int)))) (ob1 g1) <|
 .bind (F_manifest_index_1 (p0.getD (Int.toNat j2) default) p200) fun r2 hr2 =>
 .s (.callV [] [] (c_manifest_index_1 hr2)) <|
 .r 0 0 100 [0, 1, 5, 7, 8, 16] [] <|
 .cond 2 (
 .r 2 2 100 [4] [] <|
 .lf 3 [4] [] (.inr (.inr (j2)))
 ) (
 .r 4 2 100 [0, 1, 7, 8] [] <|
 .lf 1 [0, 1, 7, 8] [] (.inl (IntKind.wrap .i64 (j2 + 1)))
 )
 ) (
 .lf 1 [] [] (.inr (.inl ()))
 )
 ) fun j1 =>
 .r 2 1 100 [4] [] <|
 .lf 3 [4] [] (-1)
/-- slices.IndexFunc[[]logtide/api.SegmentInfo,logtide/api.SegmentInfo] -/
theorem c_slices_IndexFunc_api_SegmentInfo_api_SegmentInfo_w_manifest_index_1 {p0 : List S_SegmentInfo} {p200 : Int} {r : Int} (h : F_slices_IndexFunc_api_SegmentInfo_api_SegmentInfo_w_manifest_index_1 p0 p200 = some r) : Spec Tryz.prog 81 [.c (.d (.ro 7 p0.length (gT fS_SegmentInfo p0))), .c (.d (.fn 82 1 (capN [1]) (capG [(fInt .i64) p200])))] [] (xi r) [] :=
  Cert.spec [] (fun r : Int => xi r) (fun r => []) (z_slices_IndexFunc_api_SegmentInfo_api_SegmentInfo_w_manifest_index_1 p0 p200) Tryz.func81 rfl (by kernel_rfl) h
noncomputable def F_manifest_index (p0 : S_Manifest) (p1 : Int) : Option (Int × Bool) :=
 bnd (F_slices_IndexFunc_api_SegmentInfo_api_SegmentInfo_w_manifest_index_1 p0.Segments p1) fun r1 =>
 some (r1, (decide (r1 ≥ 0)))
noncomputable def z_manifest_index (p0 : S_Manifest) (p1 : Int) : Cert Tryz.prog 14 (Int × Bool) :=
 .r 2 4 100 [2, 3] [100, 101] <|
 .r 4 2 102 [3, 8] [101] <|
 .s (.fb 101 true) <|
 .r 0 1 102 [8, 9] [] <|
 .bind (F_slices_IndexFunc_api_SegmentInfo_api_SegmentInfo_w_manifest_index_1 p0.Segments p1) fun r1 hr1 =>
 .s (.call [] [] (c_slices_IndexFunc_api_SegmentInfo_api_SegmentInfo_w_manifest_index_1 hr1)) <|
 .r 0 1 102 [6] [] <|
 .r 4 5 102 [4, 5] [] <|
 .lf 3 [4, 5] [] (r1, (decide (r1 ≥ 0)))
/-- logtide/manifest.index -/
theorem c_manifest_index {p0 : S_Manifest} {p1 : Int} {r : Int × Bool} (h : F_manifest_index p0 p1 = some r) : Spec Tryz.prog 54 [.agg (bS_Manifest p0), xi p1] [] (.tup [xi r.1, xb r.2]) [] :=
  Cert.spec [] (fun r : Int × Bool => .tup [xi r.1, xb r.2]) (fun r => []) (z_manifest_index p0 p1) Tryz.func54 rfl (by kernel_rfl) h
noncomputable def F_manifest_Find (p0 : S_Manifest) (p1 : Int) : Option (S_SegmentInfo × Bool) :=
 bd (⟨(0 : Int), (0 : Int), (0 : Int), (0 : Int), (0 : Int), (0 : Int), (0 : Int)⟩ : S_SegmentInfo) fun x1 =>
 bnd (F_manifest_index p0 p1) fun r2 =>
 cond (!r2.2) (
 bd (⟨(0 : Int), (0 : Int), (0 : Int), (0 : Int), (0 : Int), (0 : Int), (0 : Int)⟩ : S_SegmentInfo) fun x3 =>
 some (x3, false)) (
 gd ((0 : Int) ≤ r2.1 ∧ r2.1 < (p0.Segments.length : Int)) (
 some ((p0.Segments.getD (Int.toNat r2.1) default), true)))
noncomputable def z_manifest_Find (p0 : S_Manifest) (p1 : Int) : Cert Tryz.prog 22 (S_SegmentInfo × Bool) :=
 .r 2 3 100 [1, 2, 4] [100, 101] <|
 .bh ((⟨(0 : Int), (0 : Int), (0 : Int), (0 : Int), (0 : Int), (0 : Int), (0 : Int)⟩ : S_SegmentInfo)) 101 (fun x1 => .box 54 (bS_SegmentInfo x1)) fun x1 =>
 .r 4 2 102 [2, 4, 9, 10] [100, 101] <|
 .bind (F_manifest_index p0 p1) fun r2 hr2 =>
 .s (.call [] [] (c_manifest_index hr2)) <|
 .r 0 5 102 [2, 4, 6, 7] [100, 101] <|
 .r 5 2 102 [2, 4, 6, 15] [100, 101] <|
 .cond 2 (
 .r 2 3 102 [4, 5] [101] <|
 .bh ((⟨(0 : Int), (0 : Int), (0 : Int), (0 : Int), (0 : Int), (0 : Int), (0 : Int)⟩ : S_SegmentInfo)) 101 (fun x3 => .box 54 (bS_SegmentInfo x3)) fun x3 =>
 .lf 3 [4, 5] [101] (x3, false)
 ) (
 .gd ((0 : Int) ≤ r2.1 ∧ r2.1 < (p0.Segments.length : Int)) fun g4 =>
 .rp 4 7 102 [4, 5] [101] (some (((0 : Int) ≤ r2.1 ∧ r2.1 < (p0.Segments.length : Int)))) (ob1 g4) <|
 .lf 3 [4, 5] [101] ((p0.Segments.getD (Int.toNat r2.1) default), true)
 )
/-- logtide/manifest.Find -/
theorem c_manifest_Find {p0 : S_Manifest} {p1 : Int} {r : S_SegmentInfo × Bool} (h : F_manifest_Find p0 p1 = some r) : Spec Tryz.prog 30 [.agg (bS_Manifest p0), xi p1] [] (.tup [.agg (bS_SegmentInfo r.1), xb r.2]) [] :=
  Cert.spec [] (fun r : S_SegmentInfo × Bool => .tup [.agg (bS_SegmentInfo r.1), xb r.2]) (fun r => []) (z_manifest_Find p0 p1) Tryz.func30 rfl (by kernel_rfl) h
noncomputable def F_tiers_Clean_1 (p0 : S_Blob) (p1 : S_Manifest) : Option (Bool) :=
 bnd (F_manifest_Find p1 p0.ID) fun r1 =>
 some (cond (!r1.2) true (r1.1.Tier != p0.Tier))
noncomputable def z_tiers_Clean_1 (p0 : S_Blob) (p1 : S_Manifest) : Cert Tryz.prog 22 (Bool) :=
 .r 2 2 100 [1, 2] [100] <|
 .r 4 3 101 [2, 7, 9] [100] <|
 .bind (F_manifest_Find p1 p0.ID) fun r1 hr1 =>
 .s (.call [] [] (c_manifest_Find hr1)) <|
 .r 0 6 101 [2, 4, 5] [100, 101] <|
 .rp 4 10 102 [3] [] (let u1 := ((!(!r1.2)) = true → (!(!r1.2)) = true); some ((u1 ∧ (u1 ∧ ((u1 ∧ u1) ∧ ((!r1.2) = false → (!(!r1.2)) = true)))))) (ob1 (⟨fun h => h, ⟨fun h => h, ⟨⟨fun h => h, fun h => h⟩, (fun h => by rw [h]; rfl)⟩⟩⟩)) <|
 .lf 3 [3] [] (cond (!r1.2) true (r1.1.Tier != p0.Tier))
/-- logtide/tiers.Clean$1 -/
theorem c_tiers_Clean_1 {p0 : S_Blob} {p1 : S_Manifest} {r : Bool} (h : F_tiers_Clean_1 p0 p1 = some r) : Spec Tryz.prog 29 [.agg (bS_Blob p0), .c (.d (.rp 7 (fS_Manifest p1)))] [] (xb r) [] :=
  Cert.spec [] (fun r : Bool => xb r) (fun r => []) (z_tiers_Clean_1 p0 p1) Tryz.func29 rfl (by kernel_rfl) h
noncomputable def L_slices_IndexFunc_api_Blob_api_Blob_w_tiers_Clean_1_2 (p0 : List S_Blob) (p200 : S_Manifest) (j2 : Int) : Option ((Int) ⊕ ((Unit) ⊕ (Int))) :=
 cond (decide (j2 < (p0.length : Int))) (
 gd ((0 : Int) ≤ j2 ∧ j2 < (p0.length : Int)) (
 bnd (F_tiers_Clean_1 (p0.getD (Int.toNat j2) default) p200) fun r2 =>
 cond r2 (
 some (.inr (.inr (j2)))) (
 some (.inl (IntKind.wrap .i64 (j2 + 1)))))) (
 some (.inr (.inl ())))
noncomputable def F_slices_IndexFunc_api_Blob_api_Blob_w_tiers_Clean_1 (p0 : List S_Blob) (p200 : S_Manifest) : Option (Int) :=
 bindE (σ := (Unit)) (
 loop (L_slices_IndexFunc_api_Blob_api_Blob_w_tiers_Clean_1_2 p0 p200) 0) fun j1 =>
 some (-1)
noncomputable def z_slices_IndexFunc_api_Blob_api_Blob_w_tiers_Clean_1 (p0 : List S_Blob) (p200 : S_Manifest) : Cert Tryz.prog 19 (Int) :=
 .r 2 1 100 [0, 1] [] <|
 .sq 2 (fun j1 : (Unit) => ⟨[], []⟩) (
 .r 2 3 100 [0, 1, 7, 8] [] <|
 .s (.cn [0, 1, 7, 8] []) <|
 .lp 3 (fun j2 : (Int) => ⟨[(0, .c (.d (.ro 3 p0.length (gT fS_Blob p0)))), (1, .c (.d (.fn 29 1 (capN [7]) (capG [fS_Manifest p200])))), (7, xi (p0.length : Int)), (8, xi j2)], []⟩) 0 fun j2 =>
 .r 2 1 100 [0, 1, 7, 8, 9] [] <|
 .cond 3 (
 .r 6 2 100 [0, 1, 5, 7, 8] [] <|
 .gd ((0 : Int) ≤ j2 ∧ j2 < (p0.length : Int)) fun g1 =>
 .rp 4 5 100 [0, 1, 5, 7, 8, 11, 15] [] (some (((0 : Int) ≤ j2 ∧ j2 < (p0.length : Int)))) (ob1 g1) <|
 .bind (F_tiers_Clean_1 (p0.getD (Int.toNat j2) default) p200) fun r2 hr2 =>
 .s (.callV [] [] (c_tiers_Clean_1 hr2)) <|
 .r 0 0 100 [0, 1, 5, 7, 8, 16] [] <|
 .cond 2 (
 .r 2 2 100 [4] [] <|
 .lf 3 [4] [] (.inr (.inr (j2)))
 ) (
 .r 4 2 100 [0, 1, 7, 8] [] <|
 .lf 1 [0, 1, 7, 8] [] (.inl (IntKind.wrap .i64 (j2 + 1)))
 )
 ) (
 .lf 1 [] [] (.inr (.inl ()))
 )
 ) fun j1 =>
 .r 2 1 100 [4] [] <|
 .lf 3 [4] [] (-1)
/-- slices.IndexFunc[[]logtide/api.Blob,logtide/api.Blob] -/
theorem c_slices_IndexFunc_api_Blob_api_Blob_w_tiers_Clean_1 {p0 : List S_Blob} {p200 : S_Manifest} {r : Int} (h : F_slices_IndexFunc_api_Blob_api_Blob_w_tiers_Clean_1 p0 p200 = some r) : Spec Tryz.prog 53 [.c (.d (.ro 3 p0.length (gT fS_Blob p0))), .c (.d (.fn 29 1 (capN [7]) (capG [fS_Manifest p200])))] [] (xi r) [] :=
  Cert.spec [] (fun r : Int => xi r) (fun r => []) (z_slices_IndexFunc_api_Blob_api_Blob_w_tiers_Clean_1 p0 p200) Tryz.func53 rfl (by kernel_rfl) h
noncomputable def L_slices_DeleteFunc_api_Blob_api_Blob_w_tiers_Clean_1_2 (p200 : S_Manifest) (j2 : Int × Int × List S_Blob) : Option ((Int × Int × List S_Blob) ⊕ ((Int × List S_Blob) ⊕ (List S_Blob))) :=
 cond (decide (j2.2.1 < (j2.2.2.length : Int))) (
 bindE (σ := (Int × List S_Blob)) (
 gd ((0 : Int) ≤ j2.2.1 ∧ j2.2.1 < (j2.2.2.length : Int)) (
 bnd (F_tiers_Clean_1 (j2.2.2.getD (Int.toNat j2.2.1) default) p200) fun r3 =>
 cond (!r3) (
 gd ((0 : Int) ≤ j2.1 ∧ j2.1 < (j2.2.2.length : Int)) (
 some (.inl ((IntKind.wrap .i64 (j2.1 + 1)), (j2.2.2.set (Int.toNat j2.1) (j2.2.2.getD (Int.toNat j2.2.1) default)))))) (
 some (.inl (j2.1, j2.2.2))))) fun j3 =>
 some (.inl (j3.1, (IntKind.wrap .i64 (j2.2.1 + 1)), j3.2))) (
 some (.inr (.inl (j2.1, j2.2.2))))
noncomputable def F_slices_DeleteFunc_api_Blob_api_Blob_w_tiers_Clean_1 (p0 : List S_Blob) (p200 : S_Manifest) : Option (List S_Blob) :=
 bnd (F_slices_IndexFunc_api_Blob_api_Blob_w_tiers_Clean_1 p0 p200) fun r1 =>
 cond (r1 == (-1)) (
 some p0) (
 bindE (σ := (Int × List S_Blob)) (
 loop (L_slices_DeleteFunc_api_Blob_api_Blob_w_tiers_Clean_1_2 p200) (r1, (IntKind.wrap .i64 (r1 + 1)), p0)) fun j1 =>
 gd ((0 : Int) ≤ (j1.1 : Int) ∧ (j1.1 : Int) ≤ ((j1.2.length : Int) : Int) ∧ ((j1.2.length : Int) : Int) ≤ (j1.2.length : Int)) (
 bd (ovr j1.2 (Int.toNat j1.1) (List.replicate ((Int.toNat (j1.2.length : Int)) - (Int.toNat j1.1)) (⟨(0 : Int), (0 : Int), []⟩ : S_Blob))) fun x6 =>
 gd ((0 : Int) ≤ (0 : Int) ∧ (0 : Int) ≤ (j1.1 : Int) ∧ (j1.1 : Int) ≤ (x6.length : Int)) (
 some (x6.take ((Int.toNat j1.1) - 0)))))
noncomputable def z_slices_DeleteFunc_api_Blob_api_Blob_w_tiers_Clean_1 (p0 : List S_Blob) (p200 : S_Manifest) : Cert Tryz.prog 42 (List S_Blob) :=
 .s (.rn 1 100) <|
 .r 2 1 101 [0, 1] [100] <|
 .r 4 2 101 [0, 1, 8, 9] [100] <|
 .bind (F_slices_IndexFunc_api_Blob_api_Blob_w_tiers_Clean_1 p0 p200) fun r1 hr1 =>
 .s (.call [(60, 100)] [] (Spec.lend 60 59 3 p0.length (gT fS_Blob p0) _ (c_slices_IndexFunc_api_Blob_api_Blob_w_tiers_Clean_1 hr1) (args := [.c (.nm 60), .c (.d (.fn 29 1 (capN [7]) (capG [fS_Manifest p200])))]) rfl rfl rfl (by repeat (first | trivial | refine ⟨fun _ _ => ⟨_, rfl⟩, ?_⟩)))) <|
 .r 0 1 101 [0, 1, 5] [100] <|
 .r 5 2 101 [0, 1, 5, 12] [100] <|
 .cond 2 (
 .r 2 2 101 [4] [100] <|
 .s (.rn 100 900) <|
 .lf 3 [4] [900] p0
 ) (
 .sq 2 (fun j1 : (Int × List S_Blob) => ⟨[(0, .c (.nm 100)), (5, xi j1.1)], [(100, .rows 59 3 j1.2.length (gT fS_Blob j1.2))]⟩) (
 .r 2 3 101 [0, 1, 5, 6] [100] <|
 .s (.cn [0, 1, 5, 6] [100]) <|
 .lp 3 (fun j2 : (Int × Int × List S_Blob) => ⟨[(0, .c (.nm 100)), (1, .c (.d (.fn 29 1 (capN [7]) (capG [fS_Manifest p200])))), (5, xi j2.1), (6, xi j2.2.1)], [(100, .rows 59 3 j2.2.2.length (gT fS_Blob j2.2.2))]⟩) (r1, (IntKind.wrap .i64 (r1 + 1)), p0) fun j2 =>
 .r 3 4 101 [0, 1, 5, 6, 19] [100] <|
 .cond 2 (
 .sq 2 (fun j3 : (Int × List S_Blob) => ⟨[(0, .c (.nm 100)), (1, .c (.d (.fn 29 1 (capN [7]) (capG [fS_Manifest p200])))), (5, xi j3.1), (6, xi j2.2.1)], [(100, .rows 59 3 j3.2.length (gT fS_Blob j3.2))]⟩) (
 .gd ((0 : Int) ≤ j2.2.1 ∧ j2.2.1 < (j2.2.2.length : Int)) fun g2 =>
 .rp 3 6 101 [0, 1, 5, 6, 7] [100, 101] (some ((((0 : Int) ≤ j2.2.1 ∧ j2.2.1 < (j2.2.2.length : Int)) ∧ ((Int.toNat j2.2.1) < j2.2.2.length)))) (ob1 (⟨g2, (tn g2)⟩)) <|
 .r 4 2 102 [0, 1, 5, 6, 7, 26, 27] [100, 101] <|
 .bind (F_tiers_Clean_1 (j2.2.2.getD (Int.toNat j2.2.1) default) p200) fun r3 hr3 =>
 .s (.callV [] [] (c_tiers_Clean_1 hr3)) <|
 .r 0 1 102 [0, 1, 5, 6, 7, 29] [100, 101] <|
 .cond 2 (
 .gd ((0 : Int) ≤ j2.1 ∧ j2.1 < (j2.2.2.length : Int)) fun g4 =>
 .rp 2 4 102 [0, 1, 5, 6, 32, 33] [100] (some (((0 : Int) ≤ j2.1 ∧ j2.1 < (j2.2.2.length : Int)))) (ob1 g4) <|
 .s (.stR fS_Blob j2.2.2 100 59 3 (Int.toNat j2.1) 0 (j2.2.2.getD (Int.toNat j2.2.1) default) (tn g4)) <|
 .r 0 0 102 [0, 1, 5, 6] [100] <|
 .r 3 3 102 [0, 1, 5, 6] [100] <|
 .lf 1 [0, 1, 5, 6] [100] (.inl ((IntKind.wrap .i64 (j2.1 + 1)), (j2.2.2.set (Int.toNat j2.1) (j2.2.2.getD (Int.toNat j2.2.1) default))))
 ) (
 .lf 1 [0, 1, 5, 6] [100] (.inl (j2.1, j2.2.2))
 )
 ) fun j3 =>
 .r 1 3 102 [0, 1, 5, 6] [100] <|
 .lf 1 [0, 1, 5, 6] [100] (.inl (j3.1, (IntKind.wrap .i64 (j2.2.1 + 1)), j3.2))
 ) (
 .lf 1 [0, 5] [100] (.inr (.inl (j2.1, j2.2.2)))
 )
 ) fun j1 =>
 .r 2 2 102 [0, 5, 36, 37] [100] <|
 .gd ((0 : Int) ≤ (j1.1 : Int) ∧ (j1.1 : Int) ≤ ((j1.2.length : Int) : Int) ∧ ((j1.2.length : Int) : Int) ≤ (j1.2.length : Int)) fun g5 =>
 .s (.sliceN 100 59 3 (j1.2.length) (j1.1) ((j1.2.length : Int)) g5) <|
 .r 0 0 102 [0, 5, 38] [100] <|
 .s (.clear fS_Blob j1.2 (⟨(0 : Int), (0 : Int), []⟩ : S_Blob) 100 59 3 (Int.toNat j1.1) ((Int.toNat (j1.2.length : Int)) - (Int.toNat j1.1)) [.v (.int .i64 0), .v (.int .i64 0), .v (.slice none 0 0)] (CsImp.cons CImp.same (CsImp.cons CImp.same (CsImp.cons CImp.nil CsImp.nil))) (slle g5)) <|
 .r 0 0 102 [0, 5] [100] <|
 .bh ((ovr j1.2 (Int.toNat j1.1) (List.replicate ((Int.toNat (j1.2.length : Int)) - (Int.toNat j1.1)) (⟨(0 : Int), (0 : Int), []⟩ : S_Blob)))) 100 (fun x6 => .rows 59 3 x6.length (gT fS_Blob x6)) fun x6 =>
 .r 4 2 102 [39, 40] [100] <|
 .gd ((0 : Int) ≤ (0 : Int) ∧ (0 : Int) ≤ (j1.1 : Int) ∧ (j1.1 : Int) ≤ (x6.length : Int)) fun g7 =>
 .s (.sliceN 100 59 3 (x6.length) (0) (j1.1) g7) <|
 .r 0 1 102 [4] [100] <|
 .s (.cutR fS_Blob x6 4 100 102 59 3 ((Int.toNat j1.1) - 0) (slle0 g7)) <|
 .s (.rn 102 900) <|
 .lf 3 [4] [900] (x6.take ((Int.toNat j1.1) - 0))
 )
/-- slices.DeleteFunc[[]logtide/api.Blob,logtide/api.Blob] -/
theorem c_slices_DeleteFunc_api_Blob_api_Blob_w_tiers_Clean_1 {p0 : List S_Blob} {p200 : S_Manifest} {r : List S_Blob} (h : F_slices_DeleteFunc_api_Blob_api_Blob_w_tiers_Clean_1 p0 p200 = some r) : Spec Tryz.prog 27 [.c (.nm 1), .c (.d (.fn 29 1 (capN [7]) (capG [fS_Manifest p200])))] [(1, .rows 59 3 p0.length (gT fS_Blob p0))] (.c (.nm 900)) [(900, .rows 59 3 r.length (gT fS_Blob r))] :=
  Cert.spec [900] (fun r : List S_Blob => .c (.nm 900)) (fun r => [(900, .rows 59 3 r.length (gT fS_Blob r))]) (z_slices_DeleteFunc_api_Blob_api_Blob_w_tiers_Clean_1 p0 p200) Tryz.func27 rfl (by kernel_rfl) h
noncomputable def F_tiers_Clean (p0 : List S_Blob) (p1 : S_Manifest) : Option (List S_Blob) :=
 bnd (F_slices_Clone_api_Blob_api_Blob p0) fun r1 =>
 bnd (F_slices_DeleteFunc_api_Blob_api_Blob_w_tiers_Clean_1 r1 p1) fun r2 =>
 some r2
noncomputable def z_tiers_Clean (p0 : List S_Blob) (p1 : S_Manifest) : Cert Tryz.prog 9 (List S_Blob) :=
 .r 2 2 100 [0, 3] [100] <|
 .r 4 1 101 [3, 5] [100] <|
 .bind (F_slices_Clone_api_Blob_api_Blob p0) fun r1 hr1 =>
 .s (.call [] [(900, 101)] (c_slices_Clone_api_Blob_api_Blob hr1)) <|
 .r 0 0 102 [3, 6] [100, 101] <|
 .s (.fb 100 false) <|
 .r 0 1 102 [6, 7] [101] <|
 .bind (F_slices_DeleteFunc_api_Blob_api_Blob_w_tiers_Clean_1 r1 p1) fun r2 hr2 =>
 .s (.call [(1, 101)] [(900, 102)] (c_slices_DeleteFunc_api_Blob_api_Blob_w_tiers_Clean_1 hr2)) <|
 .r 0 1 103 [4] [102] <|
 .s (.rn 102 900) <|
 .lf 3 [4] [900] r2
/-- logtide/tiers.Clean -/
theorem c_tiers_Clean {p0 : List S_Blob} {p1 : S_Manifest} {r : List S_Blob} (h : F_tiers_Clean p0 p1 = some r) : Spec Tryz.prog 9 [.c (.d (.ro 3 p0.length (gT fS_Blob p0))), .agg (bS_Manifest p1)] [] (.c (.nm 900)) [(900, .rows 59 3 r.length (gT fS_Blob r))] :=
  Cert.spec [900] (fun r : List S_Blob => .c (.nm 900)) (fun r => [(900, .rows 59 3 r.length (gT fS_Blob r))]) (z_tiers_Clean p0 p1) Tryz.func9 rfl (by kernel_rfl) h
end Go.Abs
