/- DERIVED. Printed by gen.py of this repo. -/
import Derived.Test.YtlhiaclmbegaiaaGreatF0
set_option linter.unusedVariables false
set_option linter.unusedSimpArgs false
set_option maxRecDepth 100000
namespace Go.Abs
open Go.Proofs
noncomputable def F_draw_Codes_Word (p0 : S_draw_Codes) : Option (ByteArray × S_draw_Codes) :=
 bd ([(ByteArray.mk #[103, 101, 116]), (ByteArray.mk #[101, 114, 114, 111, 114]), (ByteArray.mk #[119, 97, 114, 110]), (ByteArray.mk #[97, 49]), (ByteArray.mk #[117, 115, 101, 114, 95, 55]), (ByteArray.mk #[120]), (ByteArray.mk #[84, 105, 109, 101, 111, 117, 116]), (ByteArray.mk #[50, 48, 48]), (ByteArray.mk #[71, 69, 84]), (ByteArray.mk #[101, 114, 114, 111]), (ByteArray.mk #[122]), (ByteArray.mk #[]), (ByteArray.mk #[255]), (ByteArray.mk #[97, 46, 98])] : List ByteArray) fun x1 =>
 bnd (F_draw_Codes_Next p0 (x1.length : Int)) fun r2 =>
 gd ((0 : Int) ≤ r2.1 ∧ r2.1 < (x1.length : Int)) (
 some ((x1.getD (Int.toNat r2.1) default), r2.2))
noncomputable def z_draw_Codes_Word (p0 : S_draw_Codes) : Cert Tryz.prog 12 (ByteArray × S_draw_Codes) :=
 .r 2 1 100 [0] [1] <|
 .r 4 2 100 [0, 3] [1] <|
 .bs (([(ByteArray.mk #[103, 101, 116]), (ByteArray.mk #[101, 114, 114, 111, 114]), (ByteArray.mk #[119, 97, 114, 110]), (ByteArray.mk #[97, 49]), (ByteArray.mk #[117, 115, 101, 114, 95, 55]), (ByteArray.mk #[120]), (ByteArray.mk #[84, 105, 109, 101, 111, 117, 116]), (ByteArray.mk #[50, 48, 48]), (ByteArray.mk #[71, 69, 84]), (ByteArray.mk #[101, 114, 114, 111]), (ByteArray.mk #[122]), (ByteArray.mk #[]), (ByteArray.mk #[255]), (ByteArray.mk #[97, 46, 98])] : List ByteArray)) [3] (fun x1 => .c (.d (.ro 1 x1.length (gT fStr x1)))) fun x1 =>
 .r 4 4 100 [5, 6, 8] [1] <|
 .bind (F_draw_Codes_Next p0 (x1.length : Int)) fun r2 hr2 =>
 .s (.call [(1, 1)] [] (c_draw_Codes_Next hr2)) <|
 .gd ((0 : Int) ≤ r2.1 ∧ r2.1 < (x1.length : Int)) fun g3 =>
 .rp 0 3 100 [2] [1] (some (((0 : Int) ≤ r2.1 ∧ r2.1 < (x1.length : Int)))) (ob1 g3) <|
 .lf 3 [2] [1] ((x1.getD (Int.toNat r2.1) default), r2.2)
/-- (*logtide/logtidedraw.Codes).Word -/
theorem c_draw_Codes_Word {p0 : S_draw_Codes} {r : ByteArray × S_draw_Codes} (h : F_draw_Codes_Word p0 = some r) : Spec Tryz.prog 113 [.c (.np 1 2 0 0)] [(1, .box 76 (bS_draw_Codes p0))] (xs r.1) [(1, .box 76 (bS_draw_Codes r.2))] :=
  Cert.spec [1] (fun r : ByteArray × S_draw_Codes => xs r.1) (fun r => [(1, .box 76 (bS_draw_Codes r.2))]) (z_draw_Codes_Word p0) Tryz.func113 rfl (by kernel_rfl) h
noncomputable def L_draw_Codes_Text_2 (j2 : ByteArray × Int × S_draw_Codes) : Option ((ByteArray × Int × S_draw_Codes) ⊕ ((ByteArray × S_draw_Codes) ⊕ (ByteArray × S_draw_Codes))) :=
 cond (decide (j2.2.1 > 0)) (
 bnd (F_draw_Codes_Next j2.2.2 5) fun r3 =>
 gd ((0 : Int) ≤ r3.1 ∧ r3.1 < (([(ByteArray.mk #[32]), (ByteArray.mk #[32]), (ByteArray.mk #[44, 32]), (ByteArray.mk #[61]), (ByteArray.mk #[])] : List ByteArray).length : Int)) (
 bnd (F_draw_Codes_Word r3.2) fun r5 =>
 gd ((([(ByteArray.mk #[32]), (ByteArray.mk #[32]), (ByteArray.mk #[44, 32]), (ByteArray.mk #[61]), (ByteArray.mk #[])] : List ByteArray).getD (Int.toNat r3.1) default).size + r5.1.size ≤ 9223372036854775807) (
 gd (j2.1.size + ((([(ByteArray.mk #[32]), (ByteArray.mk #[32]), (ByteArray.mk #[44, 32]), (ByteArray.mk #[61]), (ByteArray.mk #[])] : List ByteArray).getD (Int.toNat r3.1) default) ++ r5.1).size ≤ 9223372036854775807) (
 bd (j2.1 ++ ((([(ByteArray.mk #[32]), (ByteArray.mk #[32]), (ByteArray.mk #[44, 32]), (ByteArray.mk #[61]), (ByteArray.mk #[])] : List ByteArray).getD (Int.toNat r3.1) default) ++ r5.1)) fun x8 =>
 some (.inl (x8, (IntKind.wrap .i64 (j2.2.1 - 1)), r5.2)))))) (
 some (.inr (.inl (j2.1, j2.2.2))))
noncomputable def F_draw_Codes_Text (p0 : S_draw_Codes) : Option (ByteArray × S_draw_Codes) :=
 bnd (F_draw_Codes_Word p0) fun r1 =>
 bindE (σ := (ByteArray × S_draw_Codes)) (
 bnd (F_draw_Codes_Next r1.2 4) fun r2 =>
 loop L_draw_Codes_Text_2 (r1.1, r2.1, r2.2)) fun j1 =>
 some (j1.1, j1.2)
noncomputable def z_draw_Codes_Text (p0 : S_draw_Codes) : Cert Tryz.prog 24 (ByteArray × S_draw_Codes) :=
 .r 2 1 100 [0] [1] <|
 .r 4 1 100 [0, 5] [1] <|
 .bind (F_draw_Codes_Word p0) fun r1 hr1 =>
 .s (.call [(1, 1)] [] (c_draw_Codes_Word hr1)) <|
 .r 0 1 100 [0, 3] [1] <|
 .sq 2 (fun j1 : (ByteArray × S_draw_Codes) => ⟨[(3, xs j1.1)], [(1, .box 76 (bS_draw_Codes j1.2))]⟩) (
 .r 2 1 100 [0, 3, 7] [1] <|
 .bind (F_draw_Codes_Next r1.2 4) fun r2 hr2 =>
 .s (.call [(1, 1)] [] (c_draw_Codes_Next hr2)) <|
 .r 0 1 100 [0, 3, 4] [1] <|
 .s (.cn [0, 3, 4] [1]) <|
 .lp 3 (fun j2 : (ByteArray × Int × S_draw_Codes) => ⟨[(0, .c (.np 1 2 0 0)), (3, xs j2.1), (4, xi j2.2.1)], [(1, .box 76 (bS_draw_Codes j2.2.2))]⟩) (r1.1, r2.1, r2.2) fun j2 =>
 .r 3 2 100 [0, 3, 4, 10] [1] <|
 .cond 2 (
 .s (.cn [0, 3, 4] [1]) <|
 .bind (F_draw_Codes_Next j2.2.2 5) fun r3 hr3 =>
 .gd ((0 : Int) ≤ r3.1 ∧ r3.1 < (([(ByteArray.mk #[32]), (ByteArray.mk #[32]), (ByteArray.mk #[44, 32]), (ByteArray.mk #[61]), (ByteArray.mk #[])] : List ByteArray).length : Int)) fun g4 =>
 .bind (F_draw_Codes_Word r3.2) fun r5 hr5 =>
 .gd ((([(ByteArray.mk #[32]), (ByteArray.mk #[32]), (ByteArray.mk #[44, 32]), (ByteArray.mk #[61]), (ByteArray.mk #[])] : List ByteArray).getD (Int.toNat r3.1) default).size + r5.1.size ≤ 9223372036854775807) fun g6 =>
 .gd (j2.1.size + ((([(ByteArray.mk #[32]), (ByteArray.mk #[32]), (ByteArray.mk #[44, 32]), (ByteArray.mk #[61]), (ByteArray.mk #[])] : List ByteArray).getD (Int.toNat r3.1) default) ++ r5.1).size ≤ 9223372036854775807) fun g7 =>
 .m 4 <|
 .s (.dr [.call 3 [(1, 1)] [] (c_draw_Codes_Next hr3), .call 7 [(1, 1)] [] (c_draw_Codes_Word hr5)] (let u2 := (ByteArray.mk #[32]); let u1 := (([u2, u2, (ByteArray.mk #[44, 32]), (ByteArray.mk #[61]), (ByteArray.mk #[])] : List ByteArray).getD (Int.toNat r3.1) default); [(4, some (((0 : Int) ≤ r3.1 ∧ r3.1 < (([u2, u2, (ByteArray.mk #[44, 32]), (ByteArray.mk #[61]), (ByteArray.mk #[])] : List ByteArray).length : Int)))), (8, some ((u1.size + r5.1.size ≤ 9223372036854775807))), (9, some ((j2.1.size + (u1 ++ r5.1).size ≤ 9223372036854775807)))]) (obsAll.cons (ob1 g4) (obsAll.cons (ob1 g6) (obsAll.cons (ob1 g7) obsAll.nil))) [0, 3, 4] [1]) <|
 .bs ((j2.1 ++ ((([(ByteArray.mk #[32]), (ByteArray.mk #[32]), (ByteArray.mk #[44, 32]), (ByteArray.mk #[61]), (ByteArray.mk #[])] : List ByteArray).getD (Int.toNat r3.1) default) ++ r5.1))) [3] xs fun x8 =>
 .r 4 3 100 [0, 3, 4] [1] <|
 .lf 1 [0, 3, 4] [1] (.inl (x8, (IntKind.wrap .i64 (j2.2.1 - 1)), r5.2))
 ) (
 .lf 1 [3] [1] (.inr (.inl (j2.1, j2.2.2)))
 )
 ) fun j1 =>
 .r 2 2 100 [2] [1] <|
 .lf 3 [2] [1] (j1.1, j1.2)
/-- (*logtide/logtidedraw.Codes).Text -/
theorem c_draw_Codes_Text {p0 : S_draw_Codes} {r : ByteArray × S_draw_Codes} (h : F_draw_Codes_Text p0 = some r) : Spec Tryz.prog 90 [.c (.np 1 2 0 0)] [(1, .box 76 (bS_draw_Codes p0))] (xs r.1) [(1, .box 76 (bS_draw_Codes r.2))] :=
  Cert.spec [1] (fun r : ByteArray × S_draw_Codes => xs r.1) (fun r => [(1, .box 76 (bS_draw_Codes r.2))]) (z_draw_Codes_Text p0) Tryz.func90 rfl (by kernel_rfl) h
noncomputable def F_draw_Codes_Time (p0 : S_draw_Codes) : Option (Int × S_draw_Codes) :=
 bnd (F_draw_Codes_Next p0 4) fun r1 =>
 cond (r1.1 == 0) (
 bnd (F_draw_Codes_Next r1.2 40) fun r2 =>
 some ((IntKind.wrap .i64 (r2.1 * 86400000)), r2.2)) (
 cond (r1.1 == 1) (
 bnd (F_draw_Codes_Next r1.2 3) fun r3 =>
 some ((IntKind.wrap .i64 (253402300799999 - (IntKind.wrap .i64 (r3.1 * 86400000)))), r3.2)) (
 bnd (F_draw_Codes_Next r1.2 60) fun r4 =>
 some ((IntKind.wrap .i64 (1000 + r4.1)), r4.2)))
noncomputable def z_draw_Codes_Time (p0 : S_draw_Codes) : Cert Tryz.prog 19 (Int × S_draw_Codes) :=
 .r 2 1 100 [0] [1] <|
 .r 5 1 100 [0, 3] [1] <|
 .bind (F_draw_Codes_Next p0 4) fun r1 hr1 =>
 .s (.call [(1, 1)] [] (c_draw_Codes_Next hr1)) <|
 .r 0 0 100 [0, 4] [1] <|
 .r 5 2 100 [0, 4, 5] [1] <|
 .cond 2 (
 .r 2 1 100 [7] [1] <|
 .bind (F_draw_Codes_Next r1.2 40) fun r2 hr2 =>
 .s (.call [(1, 1)] [] (c_draw_Codes_Next hr2)) <|
 .r 0 2 100 [2] [1] <|
 .lf 3 [2] [1] ((IntKind.wrap .i64 (r2.1 * 86400000)), r2.2)
 ) (
 .r 2 2 100 [0, 10] [1] <|
 .cond 2 (
 .r 2 1 100 [12] [1] <|
 .bind (F_draw_Codes_Next r1.2 3) fun r3 hr3 =>
 .s (.call [(1, 1)] [] (c_draw_Codes_Next hr3)) <|
 .r 0 3 100 [2] [1] <|
 .lf 3 [2] [1] ((IntKind.wrap .i64 (253402300799999 - (IntKind.wrap .i64 (r3.1 * 86400000)))), r3.2)
 ) (
 .r 5 1 100 [16] [1] <|
 .bind (F_draw_Codes_Next r1.2 60) fun r4 hr4 =>
 .s (.call [(1, 1)] [] (c_draw_Codes_Next hr4)) <|
 .r 0 2 100 [2] [1] <|
 .lf 3 [2] [1] ((IntKind.wrap .i64 (1000 + r4.1)), r4.2)
 )
 )
/-- (*logtide/logtidedraw.Codes).Time -/
theorem c_draw_Codes_Time {p0 : S_draw_Codes} {r : Int × S_draw_Codes} (h : F_draw_Codes_Time p0 = some r) : Spec Tryz.prog 91 [.c (.np 1 2 0 0)] [(1, .box 76 (bS_draw_Codes p0))] (xi r.1) [(1, .box 76 (bS_draw_Codes r.2))] :=
  Cert.spec [1] (fun r : Int × S_draw_Codes => xi r.1) (fun r => [(1, .box 76 (bS_draw_Codes r.2))]) (z_draw_Codes_Time p0) Tryz.func91 rfl (by kernel_rfl) h
noncomputable def F_draw_Codes_Weight (p0 : S_draw_Codes) : Option (Int × S_draw_Codes) :=
 bnd (F_draw_Codes_Next p0 6) fun r1 =>
 gd ((0 : Int) ≤ r1.1 ∧ r1.1 < (([1, 1, 2, 5, 10, 5040] : List Int).length : Int)) (
 some ((([1, 1, 2, 5, 10, 5040] : List Int).getD (Int.toNat r1.1) default), r1.2))
noncomputable def z_draw_Codes_Weight (p0 : S_draw_Codes) : Cert Tryz.prog 8 (Int × S_draw_Codes) :=
 .r 2 1 100 [0] [1] <|
 .r 4 2 100 [3, 4] [1] <|
 .bind (F_draw_Codes_Next p0 6) fun r1 hr1 =>
 .s (.call [(1, 1)] [] (c_draw_Codes_Next hr1)) <|
 .gd ((0 : Int) ≤ r1.1 ∧ r1.1 < (([1, 1, 2, 5, 10, 5040] : List Int).length : Int)) fun g2 =>
 .rp 0 3 100 [2] [1] (some (((0 : Int) ≤ r1.1 ∧ r1.1 < (([1, 1, 2, 5, 10, 5040] : List Int).length : Int)))) (ob1 g2) <|
 .lf 3 [2] [1] ((([1, 1, 2, 5, 10, 5040] : List Int).getD (Int.toNat r1.1) default), r1.2)
/-- (*logtide/logtidedraw.Codes).Weight -/
theorem c_draw_Codes_Weight {p0 : S_draw_Codes} {r : Int × S_draw_Codes} (h : F_draw_Codes_Weight p0 = some r) : Spec Tryz.prog 92 [.c (.np 1 2 0 0)] [(1, .box 76 (bS_draw_Codes p0))] (xi r.1) [(1, .box 76 (bS_draw_Codes r.2))] :=
  Cert.spec [1] (fun r : Int × S_draw_Codes => xi r.1) (fun r => [(1, .box 76 (bS_draw_Codes r.2))]) (z_draw_Codes_Weight p0) Tryz.func92 rfl (by kernel_rfl) h
noncomputable def F_draw_Codes_Value (p0 : S_draw_Codes) : Option (ByteArray × S_draw_Codes) :=
 bd ([(ByteArray.mk #[119, 97, 114, 110]), (ByteArray.mk #[105, 110, 102, 111]), (ByteArray.mk #[55]), (ByteArray.mk #[45, 51]), (ByteArray.mk #[51, 49]), (ByteArray.mk #[]), (ByteArray.mk #[120, 32, 121]), (ByteArray.mk #[57, 57, 57, 57, 57, 57, 57, 57, 57, 57, 57, 57, 57, 57, 57, 57, 57, 57]), (ByteArray.mk #[49, 48, 48, 48, 48, 48, 48, 48, 48, 48, 48, 48, 48, 48, 48, 48, 48, 48, 48]), (ByteArray.mk #[48, 55]), (ByteArray.mk #[45])] : List ByteArray) fun x1 =>
 bnd (F_draw_Codes_Next p0 (x1.length : Int)) fun r2 =>
 gd ((0 : Int) ≤ r2.1 ∧ r2.1 < (x1.length : Int)) (
 some ((x1.getD (Int.toNat r2.1) default), r2.2))
noncomputable def z_draw_Codes_Value (p0 : S_draw_Codes) : Cert Tryz.prog 12 (ByteArray × S_draw_Codes) :=
 .r 2 1 100 [0] [1] <|
 .r 4 2 100 [0, 3] [1] <|
 .bs (([(ByteArray.mk #[119, 97, 114, 110]), (ByteArray.mk #[105, 110, 102, 111]), (ByteArray.mk #[55]), (ByteArray.mk #[45, 51]), (ByteArray.mk #[51, 49]), (ByteArray.mk #[]), (ByteArray.mk #[120, 32, 121]), (ByteArray.mk #[57, 57, 57, 57, 57, 57, 57, 57, 57, 57, 57, 57, 57, 57, 57, 57, 57, 57]), (ByteArray.mk #[49, 48, 48, 48, 48, 48, 48, 48, 48, 48, 48, 48, 48, 48, 48, 48, 48, 48, 48]), (ByteArray.mk #[48, 55]), (ByteArray.mk #[45])] : List ByteArray)) [3] (fun x1 => .c (.d (.ro 1 x1.length (gT fStr x1)))) fun x1 =>
 .r 4 4 100 [5, 6, 8] [1] <|
 .bind (F_draw_Codes_Next p0 (x1.length : Int)) fun r2 hr2 =>
 .s (.call [(1, 1)] [] (c_draw_Codes_Next hr2)) <|
 .gd ((0 : Int) ≤ r2.1 ∧ r2.1 < (x1.length : Int)) fun g3 =>
 .rp 0 3 100 [2] [1] (some (((0 : Int) ≤ r2.1 ∧ r2.1 < (x1.length : Int)))) (ob1 g3) <|
 .lf 3 [2] [1] ((x1.getD (Int.toNat r2.1) default), r2.2)
/-- (*logtide/logtidedraw.Codes).Value -/
theorem c_draw_Codes_Value {p0 : S_draw_Codes} {r : ByteArray × S_draw_Codes} (h : F_draw_Codes_Value p0 = some r) : Spec Tryz.prog 114 [.c (.np 1 2 0 0)] [(1, .box 76 (bS_draw_Codes p0))] (xs r.1) [(1, .box 76 (bS_draw_Codes r.2))] :=
  Cert.spec [1] (fun r : ByteArray × S_draw_Codes => xs r.1) (fun r => [(1, .box 76 (bS_draw_Codes r.2))]) (z_draw_Codes_Value p0) Tryz.func114 rfl (by kernel_rfl) h
noncomputable def L_draw_Codes_Fields_2 (x1 : List ByteArray) (j2 : Int × S_draw_Codes × List S_Field) : Option ((Int × S_draw_Codes × List S_Field) ⊕ ((S_draw_Codes × List S_Field) ⊕ (List S_Field × S_draw_Codes))) :=
 cond (decide (j2.1 < (x1.length : Int))) (
 bindE (σ := (S_draw_Codes × List S_Field)) (
 bnd (F_draw_Codes_Next j2.2.1 3) fun r2 =>
 cond (r2.1 == 1) (
 gd ((0 : Int) ≤ j2.1 ∧ j2.1 < (x1.length : Int)) (
 bnd (F_draw_Codes_Value r2.2) fun r4 =>
 gd ((j2.2.2.length + 1) * 32 ≤ 140737488355328) (
 some (.inl (r4.2, (j2.2.2 ++ [(⟨(x1.getD (Int.toNat j2.1) default), r4.1⟩ : S_Field)])))))) (
 some (.inl (r2.2, j2.2.2)))) fun j3 =>
 some (.inl ((IntKind.wrap .i64 (j2.1 + 1)), j3.1, j3.2))) (
 some (.inr (.inl (j2.2.1, j2.2.2))))
noncomputable def F_draw_Codes_Fields (p0 : S_draw_Codes) : Option (List S_Field × S_draw_Codes) :=
 bd ([(ByteArray.mk #[99, 111, 100, 101]), (ByteArray.mk #[108, 101, 118, 101, 108]), (ByteArray.mk #[109, 115]), (ByteArray.mk #[117, 115, 101, 114])] : List ByteArray) fun x1 =>
 bindE (σ := (S_draw_Codes × List S_Field)) (
 loop (L_draw_Codes_Fields_2 x1) (0, p0, ([] : List S_Field))) fun j1 =>
 some (j1.2, j1.1)
noncomputable def z_draw_Codes_Fields (p0 : S_draw_Codes) : Cert Tryz.prog 27 (List S_Field × S_draw_Codes) :=
 .r 2 1 100 [0] [1] <|
 .r 4 1 100 [0, 3] [1] <|
 .r 4 2 100 [0, 3, 4] [1] <|
 .bs (([(ByteArray.mk #[99, 111, 100, 101]), (ByteArray.mk #[108, 101, 118, 101, 108]), (ByteArray.mk #[109, 115]), (ByteArray.mk #[117, 115, 101, 114])] : List ByteArray)) [4] (fun x1 => .c (.d (.ro 1 x1.length (gT fStr x1)))) fun x1 =>
 .sq 2 (fun j1 : (S_draw_Codes × List S_Field) => ⟨[(3, .c (.nm 100))], [(1, .box 76 (bS_draw_Codes j1.1)), (100, .rows 154 2 j1.2.length (gT fS_Field j1.2))]⟩) (
 .r 2 1 100 [0, 3, 4, 5] [1] <|
 .s (.own 3 100 154 2 (gT fS_Field [])) <|
 .s (.cn [0, 3, 4, 5] [1, 100]) <|
 .lp 3 (fun j2 : (Int × S_draw_Codes × List S_Field) => ⟨[(0, .c (.np 1 2 0 0)), (3, .c (.nm 100)), (4, .c (.d (.ro 1 x1.length (gT fStr x1)))), (5, xi j2.1)], [(1, .box 76 (bS_draw_Codes j2.2.1)), (100, .rows 154 2 j2.2.2.length (gT fS_Field j2.2.2))]⟩) (0, p0, ([] : List S_Field)) fun j2 =>
 .r 3 4 101 [0, 3, 4, 5, 10] [1, 100] <|
 .cond 2 (
 .sq 2 (fun j3 : (S_draw_Codes × List S_Field) => ⟨[(0, .c (.np 1 2 0 0)), (3, .c (.nm 101)), (4, .c (.d (.ro 1 x1.length (gT fStr x1)))), (5, xi j2.1)], [(1, .box 76 (bS_draw_Codes j3.1)), (101, .rows 154 2 j3.2.length (gT fS_Field j3.2))]⟩) (
 .r 3 1 101 [0, 3, 4, 5, 13] [1, 100] <|
 .bind (F_draw_Codes_Next j2.2.1 3) fun r2 hr2 =>
 .s (.call [(1, 1)] [] (c_draw_Codes_Next hr2)) <|
 .r 0 1 101 [0, 3, 4, 5, 15] [1, 100] <|
 .cond 2 (
 .s (.cn [0, 3, 4, 5] [1, 100]) <|
 .gd ((0 : Int) ≤ j2.1 ∧ j2.1 < (x1.length : Int)) fun g3 =>
 .bind (F_draw_Codes_Value r2.2) fun r4 hr4 =>
 .gd ((j2.2.2.length + 1) * 32 ≤ 140737488355328) fun g5 =>
 .s (.dr [.call 6 [(1, 1)] [] (c_draw_Codes_Value hr4), .app1 fS_Field (j2.2.2) (⟨(x1.getD (Int.toNat j2.1) default), r4.1⟩ : S_Field) (gT fS_Field j2.2.2) (.inr rfl) 9 (some 100) 154 2 32 101 g5] ([(3, some (((0 : Int) ≤ j2.1 ∧ j2.1 < (x1.length : Int))))]) (obsAll.cons (ob1 g3) obsAll.nil) [0, 3, 4, 5] [1, 101]) <|
 .lf 1 [0, 3, 4, 5] [1, 101] (.inl (r4.2, (j2.2.2 ++ [(⟨(x1.getD (Int.toNat j2.1) default), r4.1⟩ : S_Field)])))
 ) (
 .s (.cn [0, 3, 4, 5] [1, 100]) <|
 .s (.rn 100 101) <|
 .lf 1 [0, 3, 4, 5] [1, 101] (.inl (r2.2, j2.2.2))
 )
 ) fun j3 =>
 .r 1 3 102 [0, 3, 4, 5] [1, 101] <|
 .s (.cn [0, 3, 4, 5] [1, 101]) <|
 .s (.rn 101 100) <|
 .lf 1 [0, 3, 4, 5] [1, 100] (.inl ((IntKind.wrap .i64 (j2.1 + 1)), j3.1, j3.2))
 ) (
 .lf 1 [3] [1, 100] (.inr (.inl (j2.2.1, j2.2.2)))
 )
 ) fun j1 =>
 .r 2 2 102 [2] [1, 100] <|
 .s (.rn 100 900) <|
 .lf 3 [2] [1, 900] (j1.2, j1.1)
/-- (*logtide/logtidedraw.Codes).Fields -/
theorem c_draw_Codes_Fields {p0 : S_draw_Codes} {r : List S_Field × S_draw_Codes} (h : F_draw_Codes_Fields p0 = some r) : Spec Tryz.prog 93 [.c (.np 1 2 0 0)] [(1, .box 76 (bS_draw_Codes p0))] (.c (.nm 900)) [(1, .box 76 (bS_draw_Codes r.2)), (900, .rows 154 2 r.1.length (gT fS_Field r.1))] :=
  Cert.spec [1, 900] (fun r : List S_Field × S_draw_Codes => .c (.nm 900)) (fun r => [(1, .box 76 (bS_draw_Codes r.2)), (900, .rows 154 2 r.1.length (gT fS_Field r.1))]) (z_draw_Codes_Fields p0) Tryz.func93 rfl (by kernel_rfl) h
noncomputable def L_draw_Codes_Item_2 (j2 : Int × Int × S_draw_Codes × S_Event × List S_Line) : Option ((Int × Int × S_draw_Codes × S_Event × List S_Line) ⊕ ((Int × S_draw_Codes × S_Event × List S_Line) ⊕ (S_Item × S_draw_Codes))) :=
 cond (decide (j2.2.1 > 0)) (
 bnd (F_draw_Codes_Text j2.2.2.1) fun r4 =>
 bnd (F_draw_Codes_Next r4.2 2) fun r5 =>
 gd ((j2.2.2.2.2.length + 1) * 32 ≤ 140737488355328) (
 bd (j2.2.2.2.2 ++ [(⟨j2.1, (IntKind.wrap .i64 ((IntKind.wrap .i64 ((r4.1.size : Int) + 1)) + r5.1)), r4.1⟩ : S_Line)]) fun x7 =>
 bd (IntKind.wrap .i64 (j2.1 + (IntKind.wrap .i64 ((IntKind.wrap .i64 ((r4.1.size : Int) + 1)) + r5.1)))) fun x8 =>
 some (.inl (x8, (IntKind.wrap .i64 (j2.2.1 - 1)), r5.2, { j2.2.2.2.1 with Lines := [] }, x7)))) (
 some (.inr (.inl (j2.1, j2.2.2.1, j2.2.2.2.1, j2.2.2.2.2))))
noncomputable def L_draw_Codes_Item_4 (j4 : Int × List S_Line) : Option ((Int × List S_Line) ⊕ ((List S_Line) ⊕ (S_Item × S_draw_Codes))) :=
 cond (decide (j4.1 < (j4.2.length : Int))) (
 gd ((0 : Int) ≤ j4.1 ∧ j4.1 < (j4.2.length : Int)) (
 bd (j4.2.set (Int.toNat j4.1) ({ (j4.2.getD (Int.toNat j4.1) default) with Text := (ByteArray.mk #[]) })) fun x11 =>
 some (.inl ((IntKind.wrap .i64 (j4.1 + 1)), x11)))) (
 some (.inr (.inl j4.2)))
noncomputable def F_draw_Codes_Item (p0 : S_draw_Codes) (p1 : Int) (p2 : Int) (p3 : Int) : Option (S_Item × S_draw_Codes) :=
 bd (⟨(ByteArray.mk #[]), (⟨(0 : Int), (0 : Int), (0 : Int), (0 : Int), [], (0 : Int), (0 : Int), (ByteArray.mk #[]), (ByteArray.mk #[]), []⟩ : S_Event)⟩ : S_Item) fun x1 =>
 bd (⟨p1, p2, p3, (0 : Int), [], (0 : Int), (0 : Int), (ByteArray.mk #[]), (ByteArray.mk #[]), []⟩ : S_Event) fun x2 =>
 bindE (σ := (Int × S_draw_Codes × S_Event × List S_Line)) (
 bnd (F_draw_Codes_Next p0 3) fun r3 =>
 loop L_draw_Codes_Item_2 (p3, (IntKind.wrap .i64 (1 + r3.1)), r3.2, x2, ([] : List S_Line))) fun j1 =>
 bnd (F_draw_Codes_Next j1.2.1 5) fun r9 =>
 cond (r9.1 == 4) (
 bindE (σ := (List S_Line)) (
 loop L_draw_Codes_Item_4 (0, j1.2.2.2)) fun j3 =>
 bnd (F_draw_Codes_Next r9.2 3) fun r12 =>
 gd ((0 : Int) ≤ r12.1 ∧ r12.1 < (([(ByteArray.mk #[115, 97, 109, 112, 108, 101]), (ByteArray.mk #[100, 114, 111, 112]), (ByteArray.mk #[116, 111, 111, 45, 108, 111, 110, 103])] : List ByteArray).length : Int)) (
 bd (⟨(([(ByteArray.mk #[115, 97, 109, 112, 108, 101]), (ByteArray.mk #[100, 114, 111, 112]), (ByteArray.mk #[116, 111, 111, 45, 108, 111, 110, 103])] : List ByteArray).getD (Int.toNat r12.1) default), { j1.2.2.1 with To := j1.1 }⟩ : S_Item) fun x14 =>
 some ({ { x14 with Event := { x14.Event with Lines := j3 } } with Event := { ({ x14 with Event := { x14.Event with Lines := j3 } }).Event with Fields := [] } }, r12.2))) (
 bnd (F_draw_Codes_Time r9.2) fun r15 =>
 bnd (F_draw_Codes_Weight r15.2) fun r16 =>
 bnd (F_draw_Codes_Next r16.2 4) fun r17 =>
 gd ((0 : Int) ≤ r17.1 ∧ r17.1 < (([(ByteArray.mk #[116, 49]), (ByteArray.mk #[116, 50]), (ByteArray.mk #[]), (ByteArray.mk #[49, 58, 50, 58, 48])] : List ByteArray).length : Int)) (
 bnd (F_draw_Codes_Next r17.2 2) fun r19 =>
 gd ((0 : Int) ≤ r19.1 ∧ r19.1 < (([(ByteArray.mk #[109, 97, 105, 110]), (ByteArray.mk #[100, 101, 98, 117, 103])] : List ByteArray).length : Int)) (
 bd { { { { { j1.2.2.1 with To := j1.1 } with Time := r15.1 } with Weight := r16.1 } with Trace := (([(ByteArray.mk #[116, 49]), (ByteArray.mk #[116, 50]), (ByteArray.mk #[]), (ByteArray.mk #[49, 58, 50, 58, 48])] : List ByteArray).getD (Int.toNat r17.1) default) } with Stream := (([(ByteArray.mk #[109, 97, 105, 110]), (ByteArray.mk #[100, 101, 98, 117, 103])] : List ByteArray).getD (Int.toNat r19.1) default) } fun x21 =>
 bnd (F_draw_Codes_Fields r19.2) fun r22 =>
 some ({ { (⟨(ByteArray.mk #[]), { x21 with Fields := [] }⟩ : S_Item) with Event := { (⟨(ByteArray.mk #[]), { x21 with Fields := [] }⟩ : S_Item).Event with Lines := j1.2.2.2 } } with Event := { ({ (⟨(ByteArray.mk #[]), { x21 with Fields := [] }⟩ : S_Item) with Event := { (⟨(ByteArray.mk #[]), { x21 with Fields := [] }⟩ : S_Item).Event with Lines := j1.2.2.2 } }).Event with Fields := r22.1 } }, r22.2))))
noncomputable def z_draw_Codes_Item (p0 : S_draw_Codes) (p1 : Int) (p2 : Int) (p3 : Int) : Cert Tryz.prog 94 (S_Item × S_draw_Codes) :=
 .r 2 1 100 [0, 1, 2, 3, 8] [1, 100] <|
 .bh ((⟨(ByteArray.mk #[]), (⟨(0 : Int), (0 : Int), (0 : Int), (0 : Int), [], (0 : Int), (0 : Int), (ByteArray.mk #[]), (ByteArray.mk #[]), []⟩ : S_Event)⟩ : S_Item)) 100 (fun x1 => .box 93 (((bS_Item x1).set 5 (.d (.v (.slice none 0 0)))).set 10 (.d (.v (.slice none 0 0))))) fun x1 =>
 .r 4 6 101 [0, 3, 8, 9] [1, 100, 101] <|
 .bh ((⟨p1, p2, p3, (0 : Int), [], (0 : Int), (0 : Int), (ByteArray.mk #[]), (ByteArray.mk #[]), []⟩ : S_Event)) 101 (fun x2 => .box 67 (((bS_Event x2).set 4 (.d (.v (.slice none 0 0)))).set 9 (.d (.v (.slice none 0 0))))) fun x2 =>
 .r 4 2 102 [0, 8, 9, 10] [1, 100, 101] <|
 .sq 2 (fun j1 : (Int × S_draw_Codes × S_Event × List S_Line) => ⟨[(0, .c (.np 1 2 0 0)), (8, .c (.np 100 11 0 0)), (9, .c (.np 101 10 0 0)), (10, xi j1.1)], [(1, .box 76 (bS_draw_Codes j1.2.1)), (100, .box 93 (((bS_Item x1).set 5 (.d (.v (.slice none 0 0)))).set 10 (.d (.v (.slice none 0 0))))), (101, .box 67 (((bS_Event j1.2.2.1).set 4 (.nm 102)).set 9 (.d (.v (.slice none 0 0))))), (102, .rows 146 3 j1.2.2.2.length (gT fS_Line j1.2.2.2))]⟩) (
 .r 2 1 102 [0, 8, 9, 10, 20] [1, 100, 101] <|
 .bind (F_draw_Codes_Next p0 3) fun r3 hr3 =>
 .s (.call [(1, 1)] [] (c_draw_Codes_Next hr3)) <|
 .r 0 2 102 [0, 8, 9, 10, 11] [1, 100, 101] <|
 .s (.ownB 101 4 102 146 3 (gT fS_Line [])) <|
 .s (.cn [0, 8, 9, 10, 11] [1, 100, 101, 102]) <|
 .lp 3 (fun j2 : (Int × Int × S_draw_Codes × S_Event × List S_Line) => ⟨[(0, .c (.np 1 2 0 0)), (8, .c (.np 100 11 0 0)), (9, .c (.np 101 10 0 0)), (10, xi j2.1), (11, xi j2.2.1)], [(1, .box 76 (bS_draw_Codes j2.2.2.1)), (100, .box 93 (((bS_Item x1).set 5 (.d (.v (.slice none 0 0)))).set 10 (.d (.v (.slice none 0 0))))), (101, .box 67 (((bS_Event j2.2.2.2.1).set 4 (.nm 102)).set 9 (.d (.v (.slice none 0 0))))), (102, .rows 146 3 j2.2.2.2.2.length (gT fS_Line j2.2.2.2.2))]⟩) (p3, (IntKind.wrap .i64 (1 + r3.1)), r3.2, x2, ([] : List S_Line)) fun j2 =>
 .r 3 2 103 [0, 8, 9, 10, 11, 24] [1, 100, 101, 102] <|
 .cond 2 (
 .r 6 1 103 [0, 8, 9, 10, 11, 27] [1, 100, 101, 102] <|
 .bind (F_draw_Codes_Text j2.2.2.1) fun r4 hr4 =>
 .s (.call [(1, 1)] [] (c_draw_Codes_Text hr4)) <|
 .r 0 1 103 [0, 8, 9, 10, 11, 12] [1, 100, 101, 102] <|
 .r 4 4 103 [0, 8, 9, 10, 11, 12, 31, 32] [1, 100, 101, 102] <|
 .bind (F_draw_Codes_Next r4.2 2) fun r5 hr5 =>
 .s (.call [(1, 1)] [] (c_draw_Codes_Next hr5)) <|
 .r 0 2 103 [0, 8, 9, 10, 11, 12, 13] [1, 100, 101, 102] <|
 .r 4 7 103 [0, 8, 9, 10, 11, 13, 36, 41] [1, 100, 101, 102] <|
 .gd ((j2.2.2.2.2.length + 1) * 32 ≤ 140737488355328) fun g6 =>
 .s (.app1 fS_Line (j2.2.2.2.2) (⟨j2.1, (IntKind.wrap .i64 ((IntKind.wrap .i64 ((r4.1.size : Int) + 1)) + r5.1)), r4.1⟩ : S_Line) (gT fS_Line j2.2.2.2.2) (.inr rfl) 146 3 32 103 g6) <|
 .r 0 2 104 [0, 8, 9, 10, 11, 13] [1, 100, 101, 103] <|
 .bh ((j2.2.2.2.2 ++ [(⟨j2.1, (IntKind.wrap .i64 ((IntKind.wrap .i64 ((r4.1.size : Int) + 1)) + r5.1)), r4.1⟩ : S_Line)])) 103 (fun x7 => .rows 146 3 x7.length (gT fS_Line x7)) fun x7 =>
 .r 3 4 104 [0, 8, 9, 10, 11] [1, 100, 101, 103] <|
 .bs ((IntKind.wrap .i64 (j2.1 + (IntKind.wrap .i64 ((IntKind.wrap .i64 ((r4.1.size : Int) + 1)) + r5.1))))) [10] xi fun x8 =>
 .r 4 3 104 [0, 8, 9, 10, 11] [1, 100, 101, 103] <|
 .s (.cn [0, 8, 9, 10, 11] [1, 100, 101, 103]) <|
 .s (.rn 103 102) <|
 .lf 1 [0, 8, 9, 10, 11] [1, 100, 101, 102] (.inl (x8, (IntKind.wrap .i64 (j2.2.1 - 1)), r5.2, { j2.2.2.2.1 with Lines := [] }, x7))
 ) (
 .lf 1 [0, 8, 9, 10] [1, 100, 101, 102] (.inr (.inl (j2.1, j2.2.2.1, j2.2.2.2.1, j2.2.2.2.2)))
 )
 ) fun j1 =>
 .r 2 3 104 [0, 8, 9] [1, 100, 101, 102] <|
 .r 5 1 104 [0, 8, 9, 49] [1, 100, 101, 102] <|
 .bind (F_draw_Codes_Next j1.2.1 5) fun r9 hr9 =>
 .s (.call [(1, 1)] [] (c_draw_Codes_Next hr9)) <|
 .r 0 1 104 [0, 8, 9, 51] [1, 100, 101, 102] <|
 .cond 2 (
 .sq 0 (fun j3 : (List S_Line) => ⟨[(0, .c (.np 1 2 0 0)), (8, .c (.np 100 11 0 0)), (9, .c (.np 101 10 0 0))], [(1, .box 76 (bS_draw_Codes r9.2)), (100, .box 93 (((bS_Item x1).set 5 (.d (.v (.slice none 0 0)))).set 10 (.d (.v (.slice none 0 0))))), (101, .box 67 (((bS_Event ({ j1.2.2.1 with To := j1.1 })).set 4 (.nm 102)).set 9 (.d (.v (.slice none 0 0))))), (102, .rows 146 3 j3.length (gT fS_Line j3))]⟩) (
 .r 2 1 104 [0, 8, 9, 14] [1, 100, 101, 102] <|
 .s (.cn [0, 8, 9, 14] [1, 100, 101, 102]) <|
 .lp 3 (fun j4 : (Int × List S_Line) => ⟨[(0, .c (.np 1 2 0 0)), (8, .c (.np 100 11 0 0)), (9, .c (.np 101 10 0 0)), (14, xi j4.1)], [(1, .box 76 (bS_draw_Codes r9.2)), (100, .box 93 (((bS_Item x1).set 5 (.d (.v (.slice none 0 0)))).set 10 (.d (.v (.slice none 0 0))))), (101, .box 67 (((bS_Event ({ j1.2.2.1 with To := j1.1 })).set 4 (.nm 102)).set 9 (.d (.v (.slice none 0 0))))), (102, .rows 146 3 j4.2.length (gT fS_Line j4.2))]⟩) (0, j1.2.2.2) fun j4 =>
 .r 3 5 104 [0, 8, 9, 14, 56] [1, 100, 101, 102] <|
 .cond 2 (
 .gd ((0 : Int) ≤ j4.1 ∧ j4.1 < (j4.2.length : Int)) fun g10 =>
 .rp 5 5 104 [0, 8, 9, 14, 63] [1, 100, 101, 102] (some (((0 : Int) ≤ j4.1 ∧ j4.1 < (j4.2.length : Int)))) (ob1 g10) <|
 .s (.stR fS_Line j4.2 102 146 3 (Int.toNat j4.1) 2 ({ (j4.2.getD (Int.toNat j4.1) default) with Text := (ByteArray.mk #[]) }) (tn g10)) <|
 .r 0 0 104 [0, 8, 9, 14] [1, 100, 101, 102] <|
 .bh ((j4.2.set (Int.toNat j4.1) ({ (j4.2.getD (Int.toNat j4.1) default) with Text := (ByteArray.mk #[]) }))) 102 (fun x11 => .rows 146 3 x11.length (gT fS_Line x11)) fun x11 =>
 .r 4 3 104 [0, 8, 9, 14] [1, 100, 101, 102] <|
 .lf 1 [0, 8, 9, 14] [1, 100, 101, 102] (.inl ((IntKind.wrap .i64 (j4.1 + 1)), x11))
 ) (
 .lf 1 [0, 8, 9] [1, 100, 101, 102] (.inr (.inl j4.2))
 )
 ) fun j3 =>
 .s (.cn [0, 8, 9] [1, 100, 101, 102]) <|
 .bind (F_draw_Codes_Next r9.2 3) fun r12 hr12 =>
 .gd ((0 : Int) ≤ r12.1 ∧ r12.1 < (([(ByteArray.mk #[115, 97, 109, 112, 108, 101]), (ByteArray.mk #[100, 114, 111, 112]), (ByteArray.mk #[116, 111, 111, 45, 108, 111, 110, 103])] : List ByteArray).length : Int)) fun g13 =>
 .m 1 <|
 .s (.dr [.call 2 [(1, 1)] [] (c_draw_Codes_Next hr12), .stB 7 100 11 0 93 (((bS_Item x1).set 5 (.d (.v (.slice none 0 0)))).set 10 (.d (.v (.slice none 0 0)))) (((bS_Item (⟨(([(ByteArray.mk #[115, 97, 109, 112, 108, 101]), (ByteArray.mk #[100, 114, 111, 112]), (ByteArray.mk #[116, 111, 111, 45, 108, 111, 110, 103])] : List ByteArray).getD (Int.toNat r12.1) default), { j1.2.2.1 with To := j1.1 }⟩ : S_Item)).set 5 (.nm 102)).set 10 (.d (.v (.slice none 0 0))))] ([(3, some (((0 : Int) ≤ r12.1 ∧ r12.1 < (([(ByteArray.mk #[115, 97, 109, 112, 108, 101]), (ByteArray.mk #[100, 114, 111, 112]), (ByteArray.mk #[116, 111, 111, 45, 108, 111, 110, 103])] : List ByteArray).length : Int))))]) (obsAll.cons (ob1 g13) obsAll.nil) [8] [1, 100, 102]) <|
 .bh ((⟨(([(ByteArray.mk #[115, 97, 109, 112, 108, 101]), (ByteArray.mk #[100, 114, 111, 112]), (ByteArray.mk #[116, 111, 111, 45, 108, 111, 110, 103])] : List ByteArray).getD (Int.toNat r12.1) default), { j1.2.2.1 with To := j1.1 }⟩ : S_Item)) 100 (fun x14 => .box 93 (((bS_Item x14).set 5 (.nm 102)).set 10 (.d (.v (.slice none 0 0))))) fun x14 =>
 .s (.fz 102) <|
 .s (.impB 100 93 ((bS_Item ({ x14 with Event := { x14.Event with Lines := j3 } })).set 10 (.d (.v (.slice none 0 0)))) (bS_Item ({ { x14 with Event := { x14.Event with Lines := j3 } } with Event := { ({ x14 with Event := { x14.Event with Lines := j3 } }).Event with Fields := [] } })) (CsImp.cons CImp.same (CsImp.cons CImp.same (CsImp.cons CImp.same (CsImp.cons CImp.same (CsImp.cons CImp.same (CsImp.cons CImp.same (CsImp.cons CImp.same (CsImp.cons CImp.same (CsImp.cons CImp.same (CsImp.cons CImp.same (CsImp.cons CImp.nil CsImp.nil)))))))))))) <|
 .lf 3 [8] [1, 100] ({ { x14 with Event := { x14.Event with Lines := j3 } } with Event := { ({ x14 with Event := { x14.Event with Lines := j3 } }).Event with Fields := [] } }, r12.2)
 ) (
 .r 4 1 104 [0, 8, 9, 71] [1, 100, 101, 102] <|
 .bind (F_draw_Codes_Time r9.2) fun r15 hr15 =>
 .s (.call [(1, 1)] [] (c_draw_Codes_Time hr15)) <|
 .r 0 1 104 [0, 8, 9, 72, 73] [1, 100, 101, 102] <|
 .bind (F_draw_Codes_Weight r15.2) fun r16 hr16 =>
 .s (.call [(1, 1)] [] (c_draw_Codes_Weight hr16)) <|
 .r 0 4 104 [0, 8, 9] [1, 100, 101, 102] <|
 .s (.cn [0, 8, 9] [1, 100, 101, 102]) <|
 .bind (F_draw_Codes_Next r16.2 4) fun r17 hr17 =>
 .gd ((0 : Int) ≤ r17.1 ∧ r17.1 < (([(ByteArray.mk #[116, 49]), (ByteArray.mk #[116, 50]), (ByteArray.mk #[]), (ByteArray.mk #[49, 58, 50, 58, 48])] : List ByteArray).length : Int)) fun g18 =>
 .bind (F_draw_Codes_Next r17.2 2) fun r19 hr19 =>
 .gd ((0 : Int) ≤ r19.1 ∧ r19.1 < (([(ByteArray.mk #[109, 97, 105, 110]), (ByteArray.mk #[100, 101, 98, 117, 103])] : List ByteArray).length : Int)) fun g20 =>
 .m 3 <|
 .s (.dr [.call 2 [(1, 1)] [] (c_draw_Codes_Next hr17), .call 7 [(1, 1)] [] (c_draw_Codes_Next hr19), .stB 11 101 10 7 67 (((bS_Event ({ { { j1.2.2.1 with To := j1.1 } with Time := r15.1 } with Weight := r16.1 })).set 4 (.nm 102)).set 9 (.d (.v (.slice none 0 0)))) ([.d (.v (.string (([(ByteArray.mk #[116, 49]), (ByteArray.mk #[116, 50]), (ByteArray.mk #[]), (ByteArray.mk #[49, 58, 50, 58, 48])] : List ByteArray).getD (Int.toNat r17.1) default)))]), .stB 13 101 10 8 67 (((bS_Event ({ { { { j1.2.2.1 with To := j1.1 } with Time := r15.1 } with Weight := r16.1 } with Trace := (([(ByteArray.mk #[116, 49]), (ByteArray.mk #[116, 50]), (ByteArray.mk #[]), (ByteArray.mk #[49, 58, 50, 58, 48])] : List ByteArray).getD (Int.toNat r17.1) default) })).set 4 (.nm 102)).set 9 (.d (.v (.slice none 0 0)))) ([.d (.v (.string (([(ByteArray.mk #[109, 97, 105, 110]), (ByteArray.mk #[100, 101, 98, 117, 103])] : List ByteArray).getD (Int.toNat r19.1) default)))])] ([(3, some (((0 : Int) ≤ r17.1 ∧ r17.1 < (([(ByteArray.mk #[116, 49]), (ByteArray.mk #[116, 50]), (ByteArray.mk #[]), (ByteArray.mk #[49, 58, 50, 58, 48])] : List ByteArray).length : Int)))), (8, some (((0 : Int) ≤ r19.1 ∧ r19.1 < (([(ByteArray.mk #[109, 97, 105, 110]), (ByteArray.mk #[100, 101, 98, 117, 103])] : List ByteArray).length : Int))))]) (obsAll.cons (ob1 g18) (obsAll.cons (ob1 g20) obsAll.nil)) [0, 8, 9] [1, 100, 101, 102]) <|
 .bh ({ { { { { j1.2.2.1 with To := j1.1 } with Time := r15.1 } with Weight := r16.1 } with Trace := (([(ByteArray.mk #[116, 49]), (ByteArray.mk #[116, 50]), (ByteArray.mk #[]), (ByteArray.mk #[49, 58, 50, 58, 48])] : List ByteArray).getD (Int.toNat r17.1) default) } with Stream := (([(ByteArray.mk #[109, 97, 105, 110]), (ByteArray.mk #[100, 101, 98, 117, 103])] : List ByteArray).getD (Int.toNat r19.1) default) }) 101 (fun x21 => .box 67 (((bS_Event x21).set 4 (.nm 102)).set 9 (.d (.v (.slice none 0 0))))) fun x21 =>
 .r 4 1 104 [8, 9, 89] [1, 100, 101, 102] <|
 .bind (F_draw_Codes_Fields r19.2) fun r22 hr22 =>
 .s (.call [(1, 1)] [(900, 104)] (c_draw_Codes_Fields hr22)) <|
 .r 0 2 105 [8, 9] [1, 100, 101, 102, 104] <|
 .r 4 3 105 [8] [1, 100, 102, 104] <|
 .s (.fz 102) <|
 .s (.fz 104) <|
 .lf 3 [8] [1, 100] ({ { (⟨(ByteArray.mk #[]), { x21 with Fields := [] }⟩ : S_Item) with Event := { (⟨(ByteArray.mk #[]), { x21 with Fields := [] }⟩ : S_Item).Event with Lines := j1.2.2.2 } } with Event := { ({ (⟨(ByteArray.mk #[]), { x21 with Fields := [] }⟩ : S_Item) with Event := { (⟨(ByteArray.mk #[]), { x21 with Fields := [] }⟩ : S_Item).Event with Lines := j1.2.2.2 } }).Event with Fields := r22.1 } }, r22.2)
 )
/-- (*logtide/logtidedraw.Codes).Item -/
theorem c_draw_Codes_Item {p0 : S_draw_Codes} {p1 : Int} {p2 : Int} {p3 : Int} {r : S_Item × S_draw_Codes} (h : F_draw_Codes_Item p0 p1 p2 p3 = some r) : Spec Tryz.prog 67 [.c (.np 1 2 0 0), xi p1, xi p2, xi p3] [(1, .box 76 (bS_draw_Codes p0))] (.agg (bS_Item r.1)) [(1, .box 76 (bS_draw_Codes r.2))] :=
  Cert.spec [1] (fun r : S_Item × S_draw_Codes => .agg (bS_Item r.1)) (fun r => [(1, .box 76 (bS_draw_Codes r.2))]) (z_draw_Codes_Item p0 p1 p2 p3) Tryz.func67 rfl (by kernel_rfl) h
noncomputable def L_draw_Codes_Files_4 (p1 : Int) (j2 : Int × S_draw_Codes × List (List S_Item)) (j4 : Int × Int × S_draw_Codes × List S_Item) : Option ((Int × Int × S_draw_Codes × List S_Item) ⊕ ((S_draw_Codes × List S_Item) ⊕ ((Int × S_draw_Codes × List (List S_Item)) ⊕ ((S_draw_Codes × List (List S_Item)) ⊕ (List (List S_Item) × S_draw_Codes))))) :=
 cond (decide (j4.2.1 > 0)) (
 bnd (F_draw_Codes_Item j4.2.2.1 p1 (IntKind.wrap .i64 (5 + j2.1)) j4.1) fun r3 =>
 gd ((j4.2.2.2.length + 1) * 144 ≤ 140737488355328) (
 some (.inl (r3.1.Event.To, (IntKind.wrap .i64 (j4.2.1 - 1)), r3.2, (j4.2.2.2 ++ [r3.1]))))) (
 some (.inr (.inl (j4.2.2.1, j4.2.2.2))))
noncomputable def L_draw_Codes_Files_2 (p2 : Int) (p1 : Int) (j2 : Int × S_draw_Codes × List (List S_Item)) : Option ((Int × S_draw_Codes × List (List S_Item)) ⊕ ((S_draw_Codes × List (List S_Item)) ⊕ (List (List S_Item) × S_draw_Codes))) :=
 bnd (F_draw_Codes_Next j2.2.1 3) fun r1 =>
 cond (decide (j2.1 ≤ r1.1)) (
 bindE (σ := (S_draw_Codes × List S_Item)) (
 bnd (F_draw_Codes_Next r1.2 (IntKind.wrap .i64 (p2 + 1))) fun r2 =>
 loop (L_draw_Codes_Files_4 p1 j2) (0, r2.1, r2.2, ([] : List S_Item))) fun j3 =>
 gd ((j2.2.2.length + 1) * 24 ≤ 140737488355328) (
 some (.inl ((IntKind.wrap .i64 (j2.1 + 1)), j3.1, (j2.2.2 ++ [j3.2]))))) (
 some (.inr (.inl (r1.2, j2.2.2))))
noncomputable def F_draw_Codes_Files (p0 : S_draw_Codes) (p1 : Int) (p2 : Int) : Option (List (List S_Item) × S_draw_Codes) :=
 bindE (σ := (S_draw_Codes × List (List S_Item))) (
 loop (L_draw_Codes_Files_2 p2 p1) (0, p0, ([] : List (List S_Item)))) fun j1 =>
 some (j1.2, j1.1)
noncomputable def z_draw_Codes_Files (p0 : S_draw_Codes) (p1 : Int) (p2 : Int) : Cert Tryz.prog 45 (List (List S_Item) × S_draw_Codes) :=
 .r 2 1 100 [0, 1, 2] [1] <|
 .r 4 1 100 [0, 1, 2, 7] [1] <|
 .sq 2 (fun j1 : (S_draw_Codes × List (List S_Item)) => ⟨[(7, .c (.nm 100))], [(1, .box 76 (bS_draw_Codes j1.1)), (100, .rows 91 1 j1.2.length (gT (fSl 11 fS_Item) j1.2))]⟩) (
 .r 2 1 100 [0, 1, 2, 7, 8] [1] <|
 .s (.own 7 100 91 1 (gT (fSl 11 fS_Item) [])) <|
 .s (.cn [0, 1, 2, 7, 8] [1, 100]) <|
 .lp 3 (fun j2 : (Int × S_draw_Codes × List (List S_Item)) => ⟨[(0, .c (.np 1 2 0 0)), (1, xi p1), (2, xi p2), (7, .c (.nm 100)), (8, xi j2.1)], [(1, .box 76 (bS_draw_Codes j2.2.1)), (100, .rows 91 1 j2.2.2.length (gT (fSl 11 fS_Item) j2.2.2))]⟩) (0, p0, ([] : List (List S_Item))) fun j2 =>
 .r 3 2 101 [0, 1, 2, 7, 8, 13, 14] [1, 100] <|
 .bind (F_draw_Codes_Next j2.2.1 3) fun r1 hr1 =>
 .s (.call [(1, 1)] [] (c_draw_Codes_Next hr1)) <|
 .r 0 1 101 [0, 1, 2, 7, 8, 16] [1, 100] <|
 .cond 2 (
 .r 6 1 101 [0, 1, 2, 7, 8, 9] [1, 100] <|
 .r 4 1 101 [0, 1, 2, 7, 8, 9, 10] [1, 100] <|
 .sq 2 (fun j3 : (S_draw_Codes × List S_Item) => ⟨[(0, .c (.np 1 2 0 0)), (1, xi p1), (2, xi p2), (7, .c (.nm 100)), (8, xi j2.1), (9, .c (.nm 101))], [(1, .box 76 (bS_draw_Codes j3.1)), (100, .rows 91 1 j2.2.2.length (gT (fSl 11 fS_Item) j2.2.2)), (101, .rows 93 11 j3.2.length (gT fS_Item j3.2))]⟩) (
 .r 2 3 101 [0, 1, 2, 7, 8, 9, 10, 19, 21] [1, 100] <|
 .bind (F_draw_Codes_Next r1.2 (IntKind.wrap .i64 (p2 + 1))) fun r2 hr2 =>
 .s (.call [(1, 1)] [] (c_draw_Codes_Next hr2)) <|
 .r 0 1 101 [0, 1, 2, 7, 8, 9, 10, 11] [1, 100] <|
 .s (.own 9 101 93 11 (gT fS_Item [])) <|
 .s (.cn [0, 1, 2, 7, 8, 9, 10, 11] [1, 100, 101]) <|
 .lp 3 (fun j4 : (Int × Int × S_draw_Codes × List S_Item) => ⟨[(0, .c (.np 1 2 0 0)), (1, xi p1), (2, xi p2), (7, .c (.nm 100)), (8, xi j2.1), (9, .c (.nm 101)), (10, xi j4.1), (11, xi j4.2.1)], [(1, .box 76 (bS_draw_Codes j4.2.2.1)), (100, .rows 91 1 j2.2.2.length (gT (fSl 11 fS_Item) j2.2.2)), (101, .rows 93 11 j4.2.2.2.length (gT fS_Item j4.2.2.2))]⟩) (0, r2.1, r2.2, ([] : List S_Item)) fun j4 =>
 .r 3 2 102 [0, 1, 2, 7, 8, 9, 10, 11, 24] [1, 100, 101] <|
 .cond 2 (
 .r 6 5 102 [0, 1, 2, 7, 8, 9, 11, 27, 28, 30, 31] [1, 100, 101] <|
 .bind (F_draw_Codes_Item j4.2.2.1 p1 (IntKind.wrap .i64 (5 + j2.1)) j4.1) fun r3 hr3 =>
 .s (.call [(1, 1)] [] (c_draw_Codes_Item hr3)) <|
 .r 0 2 102 [0, 1, 2, 7, 8, 9, 11, 12] [1, 100, 101, 102] <|
 .r 4 3 103 [0, 1, 2, 7, 8, 11, 12, 33, 35] [1, 100, 101, 102] <|
 .gd ((j4.2.2.2.length + 1) * 144 ≤ 140737488355328) fun g4 =>
 .s (.app1 fS_Item (j4.2.2.2) r3.1 (gT fS_Item j4.2.2.2) (.inr rfl) 93 11 144 103 g4) <|
 .r 0 1 104 [0, 1, 2, 7, 8, 9, 11, 12] [1, 100, 102, 103] <|
 .r 3 4 104 [0, 1, 2, 7, 8, 9, 10, 11] [1, 100, 103] <|
 .r 4 3 104 [0, 1, 2, 7, 8, 9, 10, 11] [1, 100, 103] <|
 .s (.cn [0, 1, 2, 7, 8, 9, 10, 11] [1, 100, 103]) <|
 .s (.rn 103 101) <|
 .lf 1 [0, 1, 2, 7, 8, 9, 10, 11] [1, 100, 101] (.inl (r3.1.Event.To, (IntKind.wrap .i64 (j4.2.1 - 1)), r3.2, (j4.2.2.2 ++ [r3.1])))
 ) (
 .lf 1 [0, 1, 2, 7, 8, 9] [1, 100, 101] (.inr (.inl (j4.2.2.1, j4.2.2.2)))
 )
 ) fun j3 =>
 .r 1 2 104 [0, 1, 2, 8, 40, 41] [1, 100, 101] <|
 .s (.fz 101) <|
 .r 0 1 104 [0, 1, 2, 8, 40, 42] [1, 100] <|
 .gd ((j2.2.2.length + 1) * 24 ≤ 140737488355328) fun g5 =>
 .s (.app1 (fSl 11 fS_Item) (j2.2.2) j3.2 (gT (fSl 11 fS_Item) j2.2.2) (.inr rfl) 91 1 24 104 g5) <|
 .r 0 1 105 [0, 1, 2, 7, 8] [1, 104] <|
 .r 4 3 105 [0, 1, 2, 7, 8] [1, 104] <|
 .s (.cn [0, 1, 2, 7, 8] [1, 104]) <|
 .s (.rn 104 100) <|
 .lf 1 [0, 1, 2, 7, 8] [1, 100] (.inl ((IntKind.wrap .i64 (j2.1 + 1)), j3.1, (j2.2.2 ++ [j3.2])))
 ) (
 .lf 1 [7] [1, 100] (.inr (.inl (r1.2, j2.2.2)))
 )
 ) fun j1 =>
 .r 2 2 105 [6] [1, 100] <|
 .s (.rn 100 900) <|
 .lf 3 [6] [1, 900] (j1.2, j1.1)
/-- (*logtide/logtidedraw.Codes).Files -/
theorem c_draw_Codes_Files {p0 : S_draw_Codes} {p1 : Int} {p2 : Int} {r : List (List S_Item) × S_draw_Codes} (h : F_draw_Codes_Files p0 p1 p2 = some r) : Spec Tryz.prog 45 [.c (.np 1 2 0 0), xi p1, xi p2] [(1, .box 76 (bS_draw_Codes p0))] (.c (.nm 900)) [(1, .box 76 (bS_draw_Codes r.2)), (900, .rows 91 1 r.1.length (gT (fSl 11 fS_Item) r.1))] :=
  Cert.spec [1, 900] (fun r : List (List S_Item) × S_draw_Codes => .c (.nm 900)) (fun r => [(1, .box 76 (bS_draw_Codes r.2)), (900, .rows 91 1 r.1.length (gT (fSl 11 fS_Item) r.1))]) (z_draw_Codes_Files p0 p1 p2) Tryz.func45 rfl (by kernel_rfl) h
noncomputable def F_r12_Less (p0 : S_Event) (p1 : S_Event) : Option (Bool) :=
 cond (p0.Time != p1.Time) (
 some (decide (p0.Time < p1.Time))) (
 cond (p0.Host != p1.Host) (
 some (decide (p0.Host < p1.Host))) (
 cond (p0.File != p1.File) (
 some (decide (p0.File < p1.File))) (
 some (decide (p0.From < p1.From)))))
noncomputable def z_r12_Less (p0 : S_Event) (p1 : S_Event) : Cert Tryz.prog 43 (Bool) :=
 .r 2 3 100 [2, 3] [100, 101] <|
 .r 6 6 102 [2, 3, 5] [100, 101] <|
 .cond 2 (
 .r 2 6 102 [4] [] <|
 .lf 3 [4] [] (decide (p0.Time < p1.Time))
 ) (
 .r 2 6 102 [2, 3, 16] [100, 101] <|
 .cond 2 (
 .r 2 6 102 [4] [] <|
 .lf 3 [4] [] (decide (p0.Host < p1.Host))
 ) (
 .r 2 6 102 [2, 3, 27] [100, 101] <|
 .cond 2 (
 .r 2 6 102 [4] [] <|
 .lf 3 [4] [] (decide (p0.File < p1.File))
 ) (
 .r 5 6 102 [4] [] <|
 .lf 3 [4] [] (decide (p0.From < p1.From))
 )
 )
 )
/-- logtide/logtideref12.Less -/
theorem c_r12_Less {p0 : S_Event} {p1 : S_Event} {r : Bool} (h : F_r12_Less p0 p1 = some r) : Spec Tryz.prog 68 [.agg (bS_Event p0), .agg (bS_Event p1)] [] (xb r) [] :=
  Cert.spec [] (fun r : Bool => xb r) (fun r => []) (z_r12_Less p0 p1) Tryz.func68 rfl (by kernel_rfl) h
noncomputable def L_r29_Insert_2 (p0 : List S_Event) (p1 : S_Event) (j2 : Int) : Option ((Int) ⊕ ((Int) ⊕ (List S_Event))) :=
 gd ((decide (j2 > 0)) = true → (0 : Int) ≤ (IntKind.wrap .i64 (j2 - 1)) ∧ (IntKind.wrap .i64 (j2 - 1)) < (p0.length : Int)) (
 bnd (cond (decide (j2 > 0)) (F_r12_Less p1 (p0.getD (Int.toNat (IntKind.wrap .i64 (j2 - 1))) default)) (some (false))) fun r2 =>
 cond (cond (decide (j2 > 0)) r2 false) (
 some (.inl (IntKind.wrap .i64 (j2 - 1)))) (
 some (.inr (.inl j2))))
noncomputable def F_r29_Insert (p0 : List S_Event) (p1 : S_Event) : Option (List S_Event) :=
 bindE (σ := (Int)) (
 loop (L_r29_Insert_2 p0 p1) (p0.length : Int)) fun j1 =>
 gd ((0 : Int) ≤ (0 : Int) ∧ (0 : Int) ≤ (j1 : Int) ∧ (j1 : Int) ≤ (p0.length : Int)) (
 gd ((([] : List S_Event).length + (sub p0 0 j1).length) * 128 ≤ 140737488355328) (
 gd (((([] : List S_Event) ++ (sub p0 0 j1)).length + 1) * 128 ≤ 140737488355328) (
 gd ((0 : Int) ≤ (j1 : Int) ∧ (j1 : Int) ≤ ((p0.length : Int) : Int) ∧ ((p0.length : Int) : Int) ≤ (p0.length : Int)) (
 gd ((((([] : List S_Event) ++ (sub p0 0 j1)) ++ [p1]).length + (sub p0 j1 (p0.length : Int)).length) * 128 ≤ 140737488355328) (
 some (((([] : List S_Event) ++ (sub p0 0 j1)) ++ [p1]) ++ (sub p0 j1 (p0.length : Int))))))))
noncomputable def z_r29_Insert (p0 : List S_Event) (p1 : S_Event) : Cert Tryz.prog 34 (List S_Event) :=
 .r 2 2 100 [0, 3] [100] <|
 .r 4 3 101 [0, 3, 5] [100] <|
 .sq 2 (fun j1 : (Int) => ⟨[(0, .c (.d (.ro 10 p0.length (gT fS_Event p0)))), (3, .c (.np 100 10 0 0)), (5, xi j1)], [(100, .box 67 (bS_Event p1))]⟩) (
 .s (.cn [0, 3, 5] [100]) <|
 .lp 1 (fun j2 : (Int) => ⟨[(0, .c (.d (.ro 10 p0.length (gT fS_Event p0)))), (3, .c (.np 100 10 0 0)), (5, xi j2)], [(100, .box 67 (bS_Event p1))]⟩) (p0.length : Int) fun j2 =>
 .s (.cn [0, 3, 5] [100]) <|
 .gd ((decide (j2 > 0)) = true → (0 : Int) ≤ (IntKind.wrap .i64 (j2 - 1)) ∧ (IntKind.wrap .i64 (j2 - 1)) < (p0.length : Int)) fun g1 =>
 .bind (cond (decide (j2 > 0)) (F_r12_Less p1 (p0.getD (Int.toNat (IntKind.wrap .i64 (j2 - 1))) default)) (some (false))) fun r2 hr2 =>
 .m 2 <|
 .s (.dr [.callG 9 (decide (j2 > 0)) (F_r12_Less p1 (p0.getD (Int.toNat (IntKind.wrap .i64 (j2 - 1))) default)) (false) r2 hr2 [] (some ((((decide (j2 > 0)) = true → (decide (j2 > 0)) = true) ∧ ((decide (j2 > 0)) = true → (decide (j2 > 0)) = true)))) (ob1 (⟨fun h => h, fun h => h⟩)) (fun r h => (c_r12_Less h))] (let u1 := ((decide (j2 > 0)) = true → (decide (j2 > 0)) = true); [(6, some (u1)), (7, some (((u1 ∧ u1) ∧ ((decide (j2 > 0)) = true → (0 : Int) ≤ (IntKind.wrap .i64 (j2 - 1)) ∧ (IntKind.wrap .i64 (j2 - 1)) < (p0.length : Int))))), (8, some (u1)), (10, some (u1))]) (obsAll.cons (ob1 (fun h => h)) (obsAll.cons (ob1 (⟨⟨fun h => h, fun h => h⟩, g1⟩)) (obsAll.cons (ob1 (fun h => h)) (obsAll.cons (ob1 (fun h => h)) obsAll.nil)))) [0, 3, 5, 19] [100]) <|
 .cond 2 (
 .r 4 3 101 [0, 3, 5] [100] <|
 .lf 1 [0, 3, 5] [100] (.inl (IntKind.wrap .i64 (j2 - 1)))
 ) (
 .lf 1 [0, 3, 5] [100] (.inr (.inl j2))
 )
 ) fun j1 =>
 .gd ((0 : Int) ≤ (0 : Int) ∧ (0 : Int) ≤ (j1 : Int) ∧ (j1 : Int) ≤ (p0.length : Int)) fun g3 =>
 .rp 2 3 101 [0, 3, 5, 24] [100] (some (((0 : Int) ≤ (0 : Int) ∧ (0 : Int) ≤ (j1 : Int) ∧ (j1 : Int) ≤ (p0.length : Int)))) (ob1 g3) <|
 .s (.imp 24 (.c (.d (.ro 10 (sub p0 0 j1).length (gT fS_Event (sub p0 0 j1))))) (AImp.c (CImp.sub g3))) <|
 .r 0 0 101 [0, 3, 5, 24] [100] <|
 .gd ((([] : List S_Event).length + (sub p0 0 j1).length) * 128 ≤ 140737488355328) fun g4 =>
 .s (.appL fS_Event (([] : List S_Event)) ((sub p0 0 j1)) (fun _ _ => .v undef) (.inl rfl) 67 10 128 101 g4) <|
 .r 0 1 102 [0, 3, 5, 6] [100, 101] <|
 .s (.cn [0, 3, 5, 6] [100, 101]) <|
 .gd (((([] : List S_Event) ++ (sub p0 0 j1)).length + 1) * 128 ≤ 140737488355328) fun g5 =>
 .gd ((0 : Int) ≤ (j1 : Int) ∧ (j1 : Int) ≤ ((p0.length : Int) : Int) ∧ ((p0.length : Int) : Int) ≤ (p0.length : Int)) fun g6 =>
 .gd ((((([] : List S_Event) ++ (sub p0 0 j1)) ++ [p1]).length + (sub p0 j1 (p0.length : Int)).length) * 128 ≤ 140737488355328) fun g7 =>
 .m 3 <|
 .s (.dr [.app1 fS_Event ((([] : List S_Event) ++ (sub p0 0 j1))) p1 (gT fS_Event (([] : List S_Event) ++ (sub p0 0 j1))) (.inr rfl) 3 (some 101) 67 10 128 102 g5, .appSub fS_Event (((([] : List S_Event) ++ (sub p0 0 j1)) ++ [p1])) (p0) (j1) ((p0.length : Int)) g6 (gT fS_Event ((([] : List S_Event) ++ (sub p0 0 j1)) ++ [p1])) (.inr rfl) 7 (some 102) 67 10 128 103 g7] ([(6, some (((0 : Int) ≤ (j1 : Int) ∧ (j1 : Int) ≤ ((p0.length : Int) : Int) ∧ ((p0.length : Int) : Int) ≤ (p0.length : Int))))]) (obsAll.cons (ob1 g6) obsAll.nil) [4] [103]) <|
 .s (.rn 103 900) <|
 .lf 3 [4] [900] (((([] : List S_Event) ++ (sub p0 0 j1)) ++ [p1]) ++ (sub p0 j1 (p0.length : Int)))
/-- logtide/logtideref29.Insert -/
theorem c_r29_Insert {p0 : List S_Event} {p1 : S_Event} {r : List S_Event} (h : F_r29_Insert p0 p1 = some r) : Spec Tryz.prog 46 [.c (.d (.ro 10 p0.length (gT fS_Event p0))), .agg (bS_Event p1)] [] (.c (.nm 900)) [(900, .rows 67 10 r.length (gT fS_Event r))] :=
  Cert.spec [900] (fun r : List S_Event => .c (.nm 900)) (fun r => [(900, .rows 67 10 r.length (gT fS_Event r))]) (z_r29_Insert p0 p1) Tryz.func46 rfl (by kernel_rfl) h
noncomputable def L_draw_Codes_Events_6 (j4 : Int × List S_Event) (r2 : List (List S_Item) × S_draw_Codes) (j6 : Int × List S_Event) : Option ((Int × List S_Event) ⊕ ((List S_Event) ⊕ ((Int × List S_Event) ⊕ ((S_draw_Codes × List S_Event) ⊕ ((Int × S_draw_Codes × List S_Event) ⊕ ((S_draw_Codes × List S_Event) ⊕ (List S_Event × S_draw_Codes))))))) :=
 gd ((0 : Int) ≤ j4.1 ∧ j4.1 < (r2.1.length : Int)) (
 cond (decide (j6.1 < ((r2.1.getD (Int.toNat j4.1) default).length : Int))) (
 bindE (σ := (List S_Event)) (
 gd ((0 : Int) ≤ j6.1 ∧ j6.1 < ((r2.1.getD (Int.toNat j4.1) default).length : Int)) (
 bd ((((r2.1.getD (Int.toNat j4.1) default).getD (Int.toNat j6.1) default).Rule).toList == (ByteArray.mk #[]).toList) fun x5 =>
 cond x5 (
 bnd (F_r29_Insert j6.2 (((r2.1.getD (Int.toNat j4.1) default).getD (Int.toNat j6.1) default).Event)) fun r6 =>
 some (.inl r6)) (
 some (.inl j6.2)))) fun j7 =>
 some (.inl ((IntKind.wrap .i64 (j6.1 + 1)), j7))) (
 some (.inr (.inl j6.2))))
noncomputable def L_draw_Codes_Events_4 (r2 : List (List S_Item) × S_draw_Codes) (j4 : Int × List S_Event) : Option ((Int × List S_Event) ⊕ ((S_draw_Codes × List S_Event) ⊕ ((Int × S_draw_Codes × List S_Event) ⊕ ((S_draw_Codes × List S_Event) ⊕ (List S_Event × S_draw_Codes))))) :=
 cond (decide (j4.1 < (r2.1.length : Int))) (
 bindE (σ := (List S_Event)) (
 loop (L_draw_Codes_Events_6 j4 r2) (0, j4.2)) fun j5 =>
 some (.inl ((IntKind.wrap .i64 (j4.1 + 1)), j5))) (
 some (.inr (.inl (r2.2, j4.2))))
noncomputable def L_draw_Codes_Events_2 (p1 : Int) (j2 : Int × S_draw_Codes × List S_Event) : Option ((Int × S_draw_Codes × List S_Event) ⊕ ((S_draw_Codes × List S_Event) ⊕ (List S_Event × S_draw_Codes))) :=
 bnd (F_draw_Codes_Next j2.2.1 2) fun r1 =>
 cond (decide (j2.1 ≤ (IntKind.wrap .i64 (1 + r1.1)))) (
 bindE (σ := (S_draw_Codes × List S_Event)) (
 bnd (F_draw_Codes_Files r1.2 j2.1 p1) fun r2 =>
 loop (L_draw_Codes_Events_4 r2) (0, j2.2.2)) fun j3 =>
 some (.inl ((IntKind.wrap .i64 (j2.1 + 1)), j3.1, j3.2))) (
 some (.inr (.inl (r1.2, j2.2.2))))
noncomputable def F_draw_Codes_Events (p0 : S_draw_Codes) (p1 : Int) : Option (List S_Event × S_draw_Codes) :=
 bindE (σ := (S_draw_Codes × List S_Event)) (
 loop (L_draw_Codes_Events_2 p1) (1, p0, ([] : List S_Event))) fun j1 =>
 some (j1.2, j1.1)
noncomputable def z_draw_Codes_Events (p0 : S_draw_Codes) (p1 : Int) : Cert Tryz.prog 56 (List S_Event × S_draw_Codes) :=
 .r 2 1 100 [0, 1] [1] <|
 .r 4 1 100 [0, 1, 5] [1] <|
 .sq 2 (fun j1 : (S_draw_Codes × List S_Event) => ⟨[(5, .c (.nm 100))], [(1, .box 76 (bS_draw_Codes j1.1)), (100, .rows 67 10 j1.2.length (gT fS_Event j1.2))]⟩) (
 .r 2 1 100 [0, 1, 5, 6] [1] <|
 .s (.own 5 100 67 10 (gT fS_Event [])) <|
 .s (.cn [0, 1, 5, 6] [1, 100]) <|
 .lp 3 (fun j2 : (Int × S_draw_Codes × List S_Event) => ⟨[(0, .c (.np 1 2 0 0)), (1, xi p1), (5, .c (.nm 100)), (6, xi j2.1)], [(1, .box 76 (bS_draw_Codes j2.2.1)), (100, .rows 67 10 j2.2.2.length (gT fS_Event j2.2.2))]⟩) (1, p0, ([] : List S_Event)) fun j2 =>
 .r 3 2 101 [0, 1, 5, 6, 10, 11] [1, 100] <|
 .bind (F_draw_Codes_Next j2.2.1 2) fun r1 hr1 =>
 .s (.call [(1, 1)] [] (c_draw_Codes_Next hr1)) <|
 .r 0 2 101 [0, 1, 5, 6, 14] [1, 100] <|
 .cond 2 (
 .sq 2 (fun j3 : (S_draw_Codes × List S_Event) => ⟨[(0, .c (.np 1 2 0 0)), (1, xi p1), (5, .c (.nm 100)), (6, xi j2.1)], [(1, .box 76 (bS_draw_Codes j3.1)), (100, .rows 67 10 j3.2.length (gT fS_Event j3.2))]⟩) (
 .r 3 3 101 [0, 1, 5, 6, 17, 18, 19] [1, 100] <|
 .bind (F_draw_Codes_Files r1.2 j2.1 p1) fun r2 hr2 =>
 .s (.call [(1, 1)] [(900, 101)] (c_draw_Codes_Files hr2)) <|
 .r 0 1 102 [0, 1, 5, 6, 7] [1, 100, 101] <|
 .r 4 1 102 [0, 1, 5, 6, 7, 8] [1, 100, 101] <|
 .s (.cn [0, 1, 5, 6, 7, 8] [1, 100, 101]) <|
 .lp 3 (fun j4 : (Int × List S_Event) => ⟨[(0, .c (.np 1 2 0 0)), (1, xi p1), (5, .c (.nm 100)), (6, xi j2.1), (7, .c (.nm 101)), (8, xi j4.1)], [(1, .box 76 (bS_draw_Codes r2.2)), (100, .rows 67 10 j4.2.length (gT fS_Event j4.2)), (101, .rows 91 1 r2.1.length (gT (fSl 11 fS_Item) r2.1))]⟩) (0, j2.2.2) fun j4 =>
 .r 3 4 102 [0, 1, 5, 6, 7, 8, 24] [1, 100, 101] <|
 .cond 2 (
 .sq 2 (fun j5 : (List S_Event) => ⟨[(0, .c (.np 1 2 0 0)), (1, xi p1), (5, .c (.nm 100)), (6, xi j2.1), (7, .c (.nm 101)), (8, xi j4.1)], [(1, .box 76 (bS_draw_Codes r2.2)), (100, .rows 67 10 j5.length (gT fS_Event j5)), (101, .rows 91 1 r2.1.length (gT (fSl 11 fS_Item) r2.1))]⟩) (
 .r 3 1 102 [0, 1, 5, 6, 7, 8, 9] [1, 100, 101] <|
 .s (.cn [0, 1, 5, 6, 7, 8, 9] [1, 100, 101]) <|
 .lp 3 (fun j6 : (Int × List S_Event) => ⟨[(0, .c (.np 1 2 0 0)), (1, xi p1), (5, .c (.nm 100)), (6, xi j2.1), (7, .c (.nm 101)), (8, xi j4.1), (9, xi j6.1)], [(1, .box 76 (bS_draw_Codes r2.2)), (100, .rows 67 10 j6.2.length (gT fS_Event j6.2)), (101, .rows 91 1 r2.1.length (gT (fSl 11 fS_Item) r2.1))]⟩) (0, j4.2) fun j6 =>
 .gd ((0 : Int) ≤ j4.1 ∧ j4.1 < (r2.1.length : Int)) fun g3 =>
 .rp 3 7 102 [0, 1, 5, 6, 7, 8, 9, 33] [1, 100, 101] (some ((((0 : Int) ≤ j4.1 ∧ j4.1 < (r2.1.length : Int)) ∧ ((Int.toNat j4.1) < r2.1.length)))) (ob1 (⟨g3, (tn g3)⟩)) <|
 .cond 2 (
 .sq 2 (fun j7 : (List S_Event) => ⟨[(0, .c (.np 1 2 0 0)), (1, xi p1), (5, .c (.nm 102)), (6, xi j2.1), (7, .c (.nm 101)), (8, xi j4.1), (9, xi j6.1)], [(1, .box 76 (bS_draw_Codes r2.2)), (101, .rows 91 1 r2.1.length (gT (fSl 11 fS_Item) r2.1)), (102, .rows 67 10 j7.length (gT fS_Event j7))]⟩) (
 .gd ((0 : Int) ≤ j6.1 ∧ j6.1 < ((r2.1.getD (Int.toNat j4.1) default).length : Int)) fun g4 =>
 .rp 3 9 102 [0, 1, 5, 6, 7, 8, 9, 44] [1, 100, 101] (some ((((0 : Int) ≤ j4.1 ∧ j4.1 < (r2.1.length : Int)) ∧ (((Int.toNat j4.1) < r2.1.length) ∧ ((0 : Int) ≤ j6.1 ∧ j6.1 < ((r2.1.getD (Int.toNat j4.1) default).length : Int)))))) (ob1 (⟨g3, ⟨(tn g3), g4⟩⟩)) <|
 .bs (((((r2.1.getD (Int.toNat j4.1) default).getD (Int.toNat j6.1) default).Rule).toList == (ByteArray.mk #[]).toList)) [44] xb fun x5 =>
 .cond 2 (
 .rp 1 9 102 [0, 1, 6, 7, 8, 9, 45, 53] [1, 100, 101] (some ((((0 : Int) ≤ j4.1 ∧ j4.1 < (r2.1.length : Int)) ∧ (((Int.toNat j4.1) < r2.1.length) ∧ ((0 : Int) ≤ j6.1 ∧ j6.1 < ((r2.1.getD (Int.toNat j4.1) default).length : Int)))))) (ob1 (⟨g3, ⟨(tn g3), g4⟩⟩)) <|
 .s (.fz 100) <|
 .bind (F_r29_Insert j6.2 (((r2.1.getD (Int.toNat j4.1) default).getD (Int.toNat j6.1) default).Event)) fun r6 hr6 =>
 .s (.call [] [(900, 102)] (c_r29_Insert hr6)) <|
 .r 0 1 103 [0, 1, 5, 6, 7, 8, 9] [1, 101, 102] <|
 .lf 1 [0, 1, 5, 6, 7, 8, 9] [1, 101, 102] (.inl r6)
 ) (
 .s (.cn [0, 1, 5, 6, 7, 8, 9] [1, 100, 101]) <|
 .s (.rn 100 102) <|
 .lf 1 [0, 1, 5, 6, 7, 8, 9] [1, 101, 102] (.inl j6.2)
 )
 ) fun j7 =>
 .r 1 3 103 [0, 1, 5, 6, 7, 8, 9] [1, 101, 102] <|
 .s (.cn [0, 1, 5, 6, 7, 8, 9] [1, 101, 102]) <|
 .s (.rn 102 100) <|
 .lf 1 [0, 1, 5, 6, 7, 8, 9] [1, 100, 101] (.inl ((IntKind.wrap .i64 (j6.1 + 1)), j7))
 ) (
 .lf 1 [0, 1, 5, 6, 7, 8] [1, 100, 101] (.inr (.inl j6.2))
 )
 ) fun j5 =>
 .r 1 3 103 [0, 1, 5, 6, 7, 8] [1, 100, 101] <|
 .lf 1 [0, 1, 5, 6, 7, 8] [1, 100, 101] (.inl ((IntKind.wrap .i64 (j4.1 + 1)), j5))
 ) (
 .lf 1 [0, 1, 5, 6] [1, 100] (.inr (.inl (r2.2, j4.2)))
 )
 ) fun j3 =>
 .r 1 3 103 [0, 1, 5, 6] [1, 100] <|
 .lf 1 [0, 1, 5, 6] [1, 100] (.inl ((IntKind.wrap .i64 (j2.1 + 1)), j3.1, j3.2))
 ) (
 .lf 1 [5] [1, 100] (.inr (.inl (r1.2, j2.2.2)))
 )
 ) fun j1 =>
 .r 2 2 103 [4] [1, 100] <|
 .s (.rn 100 900) <|
 .lf 3 [4] [1, 900] (j1.2, j1.1)
/-- (*logtide/logtidedraw.Codes).Events -/
theorem c_draw_Codes_Events {p0 : S_draw_Codes} {p1 : Int} {r : List S_Event × S_draw_Codes} (h : F_draw_Codes_Events p0 p1 = some r) : Spec Tryz.prog 23 [.c (.np 1 2 0 0), xi p1] [(1, .box 76 (bS_draw_Codes p0))] (.c (.nm 900)) [(1, .box 76 (bS_draw_Codes r.2)), (900, .rows 67 10 r.1.length (gT fS_Event r.1))] :=
  Cert.spec [1, 900] (fun r : List S_Event × S_draw_Codes => .c (.nm 900)) (fun r => [(1, .box 76 (bS_draw_Codes r.2)), (900, .rows 67 10 r.1.length (gT fS_Event r.1))]) (z_draw_Codes_Events p0 p1) Tryz.func23 rfl (by kernel_rfl) h
noncomputable def F_r12_place (p0 : S_Event) : Option (Int) :=
 bd (cond (cond (cond (cond (cond (cond (decide (p0.Host < 0)) true (decide (p0.Host > 999))) true (decide (p0.File < 0))) true (decide (p0.File > 2147483646))) true (decide (p0.From < 0))) true (decide (p0.To ≤ p0.From))) true (decide (p0.To > 60000))) fun x1 =>
 cond x1 (
 some 2) (
 some 0)
noncomputable def z_r12_place (p0 : S_Event) : Cert Tryz.prog 38 (Int) :=
 .r 2 2 100 [1] [100] <|
 .rp 5 35 101 [37] [] (let u6 := (decide (p0.Host < 0)); let u2 := (cond u6 true (decide (p0.Host > 999))); let u4 := (cond u2 true (decide (p0.File < 0))); let u1 := (cond u4 true (decide (p0.File > 2147483646))); let u3 := (cond u1 true (decide (p0.From < 0))); let u5 := (cond u3 true (decide (p0.To ≤ p0.From))); let u7 := ((!u3) = true → (!u3) = true); some ((((!u6) = true → (!u6) = true) ∧ (((!u6) = true → (!u6) = true) ∧ ((u6 = false → (!u6) = true) ∧ (((!u2) = true → (!u2) = true) ∧ (((!u2) = true → (!u2) = true) ∧ ((u2 = false → (!u2) = true) ∧ (((!u4) = true → (!u4) = true) ∧ (((!u4) = true → (!u4) = true) ∧ ((u4 = false → (!u4) = true) ∧ (((!u1) = true → (!u1) = true) ∧ (((!u1) = true → (!u1) = true) ∧ ((u1 = false → (!u1) = true) ∧ (u7 ∧ (u7 ∧ ((u7 ∧ u7) ∧ ((u3 = false → (!u3) = true) ∧ (((!u5) = true → (!u5) = true) ∧ (((!u5) = true → (!u5) = true) ∧ (u5 = false → (!u5) = true))))))))))))))))))))) (ob1 (⟨fun h => h, ⟨fun h => h, ⟨(fun h => by rw [h]; rfl), ⟨fun h => h, ⟨fun h => h, ⟨(fun h => by rw [h]; rfl), ⟨fun h => h, ⟨fun h => h, ⟨(fun h => by rw [h]; rfl), ⟨fun h => h, ⟨fun h => h, ⟨(fun h => by rw [h]; rfl), ⟨fun h => h, ⟨fun h => h, ⟨⟨fun h => h, fun h => h⟩, ⟨(fun h => by rw [h]; rfl), ⟨fun h => h, ⟨fun h => h, (fun h => by rw [h]; rfl)⟩⟩⟩⟩⟩⟩⟩⟩⟩⟩⟩⟩⟩⟩⟩⟩⟩⟩)) <|
 .bs ((cond (cond (cond (cond (cond (cond (decide (p0.Host < 0)) true (decide (p0.Host > 999))) true (decide (p0.File < 0))) true (decide (p0.File > 2147483646))) true (decide (p0.From < 0))) true (decide (p0.To ≤ p0.From))) true (decide (p0.To > 60000)))) [37] xb fun x1 =>
 .cond 2 (
 .r 2 1 101 [2] [] <|
 .lf 3 [2] [] 2
 ) (
 .r 4 1 101 [2] [] <|
 .lf 3 [2] [] 0
 )
/-- logtide/logtideref12.place -/
theorem c_r12_place {p0 : S_Event} {r : Int} (h : F_r12_place p0 = some r) : Spec Tryz.prog 94 [.agg (bS_Event p0)] [] (xi r) [] :=
  Cert.spec [] (fun r : Int => xi r) (fun r => []) (z_r12_place p0) Tryz.func94 rfl (by kernel_rfl) h
end Go.Abs
