/- DERIVED. Printed by gen.py of this repo. -/
import Derived.Test.YtlhiaclmbegaiaaGreatT
set_option linter.unusedVariables false
set_option linter.unusedSimpArgs false
set_option maxRecDepth 100000
namespace Go.Abs
open Go.Proofs
noncomputable def L_cmp_Or_int_2 (p0 : List Int) (j2 : Int) : Option ((Int) ⊕ ((Unit) ⊕ (Int))) :=
 cond (decide (j2 < (p0.length : Int))) (
 gd ((0 : Int) ≤ j2 ∧ j2 < (p0.length : Int)) (
 cond ((p0.getD (Int.toNat j2) default) != 0) (
 some (.inr (.inr ((p0.getD (Int.toNat j2) default))))) (
 some (.inl (IntKind.wrap .i64 (j2 + 1)))))) (
 some (.inr (.inl ())))
noncomputable def F_cmp_Or_int (p0 : List Int) : Option (Int) :=
 bindE (σ := (Unit)) (
 loop (L_cmp_Or_int_2 p0) 0) fun j1 =>
 some 0
noncomputable def z_cmp_Or_int (p0 : List Int) : Cert Tryz.prog 18 (Int) :=
 .r 2 1 100 [0] [] <|
 .r 4 1 100 [0, 3] [] <|
 .sq 2 (fun j1 : (Unit) => ⟨[(3, xi 0)], []⟩) (
 .r 2 3 100 [3, 6, 7, 8] [] <|
 .s (.cn [3, 6, 7, 8] []) <|
 .lp 3 (fun j2 : (Int) => ⟨[(3, xi 0), (6, .c (.d (.ro 1 p0.length (gT (fInt .i64) p0)))), (7, xi (p0.length : Int)), (8, xi j2)], []⟩) 0 fun j2 =>
 .r 2 1 100 [3, 6, 7, 8, 9] [] <|
 .cond 3 (
 .gd ((0 : Int) ≤ j2 ∧ j2 < (p0.length : Int)) fun g1 =>
 .rp 6 3 100 [3, 5, 6, 7, 8] [] (some (((0 : Int) ≤ j2 ∧ j2 < (p0.length : Int)))) (ob1 g1) <|
 .r 4 3 100 [3, 5, 6, 7, 8, 14] [] <|
 .cond 2 (
 .r 2 2 100 [2] [] <|
 .lf 3 [2] [] (.inr (.inr ((p0.getD (Int.toNat j2) default))))
 ) (
 .r 4 2 100 [3, 6, 7, 8] [] <|
 .lf 1 [3, 6, 7, 8] [] (.inl (IntKind.wrap .i64 (j2 + 1)))
 )
 ) (
 .lf 1 [3] [] (.inr (.inl ()))
 )
 ) fun j1 =>
 .r 2 2 100 [2] [] <|
 .lf 3 [2] [] 0
/-- cmp.Or[int] -/
theorem c_cmp_Or_int {p0 : List Int} {r : Int} (h : F_cmp_Or_int p0 = some r) : Spec Tryz.prog 65 [.c (.d (.ro 1 p0.length (gT (fInt .i64) p0)))] [] (xi r) [] :=
  Cert.spec [] (fun r : Int => xi r) (fun r => []) (z_cmp_Or_int p0) Tryz.func65 rfl (by kernel_rfl) h
noncomputable def F_cmp_isNaN_int (p0 : Int) : Option (Bool) :=
 some (p0 != p0)
noncomputable def z_cmp_isNaN_int (p0 : Int) : Cert Tryz.prog 6 (Bool) :=
 .r 2 1 100 [0] [] <|
 .r 4 4 100 [2] [] <|
 .lf 3 [2] [] (p0 != p0)
/-- cmp.isNaN[int] -/
theorem c_cmp_isNaN_int {p0 : Int} {r : Bool} (h : F_cmp_isNaN_int p0 = some r) : Spec Tryz.prog 89 [xi p0] [] (xb r) [] :=
  Cert.spec [] (fun r : Bool => xb r) (fun r => []) (z_cmp_isNaN_int p0) Tryz.func89 rfl (by kernel_rfl) h
noncomputable def F_cmp_Compare_int (p0 : Int) (p1 : Int) : Option (Int) :=
 bnd (F_cmp_isNaN_int p0) fun r1 =>
 bnd (F_cmp_isNaN_int p1) fun r2 =>
 cond r1 (
 cond r2 (
 some 0) (
 some (-1))) (
 cond r2 (
 some 1) (
 cond (decide (p0 < p1)) (
 some (-1)) (
 cond (decide (p0 > p1)) (
 some 1) (
 some 0))))
noncomputable def z_cmp_Compare_int (p0 : Int) (p1 : Int) : Cert Tryz.prog 20 (Int) :=
 .r 2 1 100 [0, 1] [] <|
 .r 4 1 100 [0, 1, 7] [] <|
 .bind (F_cmp_isNaN_int p0) fun r1 hr1 =>
 .s (.call [] [] (c_cmp_isNaN_int hr1)) <|
 .r 0 1 100 [0, 1, 5] [] <|
 .r 4 1 100 [0, 1, 5, 9] [] <|
 .bind (F_cmp_isNaN_int p1) fun r2 hr2 =>
 .s (.call [] [] (c_cmp_isNaN_int hr2)) <|
 .r 0 1 100 [0, 1, 5, 6] [] <|
 .r 5 1 100 [0, 1, 6, 11] [] <|
 .cond 2 (
 .r 3 1 100 [12] [] <|
 .cond 2 (
 .r 2 1 100 [4] [] <|
 .lf 3 [4] [] 0
 ) (
 .r 4 1 100 [4] [] <|
 .lf 3 [4] [] (-1)
 )
 ) (
 .r 5 1 100 [0, 1, 13] [] <|
 .cond 2 (
 .r 2 1 100 [4] [] <|
 .lf 3 [4] [] 1
 ) (
 .r 5 3 100 [0, 1, 16] [] <|
 .cond 2 (
 .r 2 1 100 [4] [] <|
 .lf 3 [4] [] (-1)
 ) (
 .r 5 3 100 [19] [] <|
 .cond 2 (
 .r 2 1 100 [4] [] <|
 .lf 3 [4] [] 1
 ) (
 .r 4 1 100 [4] [] <|
 .lf 3 [4] [] 0
 )
 )
 )
 )
/-- cmp.Compare[int] -/
theorem c_cmp_Compare_int {p0 : Int} {p1 : Int} {r : Int} (h : F_cmp_Compare_int p0 p1 = some r) : Spec Tryz.prog 66 [xi p0, xi p1] [] (xi r) [] :=
  Cert.spec [] (fun r : Int => xi r) (fun r => []) (z_cmp_Compare_int p0 p1) Tryz.func66 rfl (by kernel_rfl) h
noncomputable def F_tiers_find_1 (p0 : S_Blob) (p1 : S_Blob) : Option (Int) :=
 bnd (F_cmp_Compare_int p0.ID p1.ID) fun r1 =>
 bnd (F_cmp_Compare_int p0.Tier p1.Tier) fun r2 =>
 bnd (F_cmp_Or_int ([r1, r2] : List Int)) fun r3 =>
 some r3
noncomputable def z_tiers_find_1 (p0 : S_Blob) (p1 : S_Blob) : Cert Tryz.prog 17 (Int) :=
 .r 2 3 100 [2, 3] [100, 101] <|
 .s (.cn [2, 3] [100, 101]) <|
 .bind (F_cmp_Compare_int p0.ID p1.ID) fun r1 hr1 =>
 .bind (F_cmp_Compare_int p0.Tier p1.Tier) fun r2 hr2 =>
 .bind (F_cmp_Or_int ([r1, r2] : List Int)) fun r3 hr3 =>
 .m 3 <|
 .s (.dr [.call 4 [] [] (c_cmp_Compare_int hr1), .call 9 [] [] (c_cmp_Compare_int hr2), .call 11 [] [] (c_cmp_Or_int hr3)] ([]) obsAll.nil [4] []) <|
 .lf 3 [4] [] r3
/-- logtide/tiers.find$1 -/
theorem c_tiers_find_1 {p0 : S_Blob} {p1 : S_Blob} {r : Int} (h : F_tiers_find_1 p0 p1 = some r) : Spec Tryz.prog 64 [.agg (bS_Blob p0), .agg (bS_Blob p1)] [] (xi r) [] :=
  Cert.spec [] (fun r : Int => xi r) (fun r => []) (z_tiers_find_1 p0 p1) Tryz.func64 rfl (by kernel_rfl) h
noncomputable def L_slices_BinarySearchFunc_api_Blob_api_Blob_api_Blob_w_tiers_find_1_2 (p0 : List S_Blob) (p1 : S_Blob) (j2 : Int × Int) : Option ((Int × Int) ⊕ ((Int) ⊕ (Int × Bool))) :=
 cond (decide (j2.1 < j2.2)) (
 bd (IntKind.wrap .i64 ((Int.fdiv (IntKind.wrap .u64 ((IntKind.wrap .i64 (j2.1 + j2.2)))) (2 ^ (min (Int.toNat 1) 64))))) fun x1 =>
 gd ((0 : Int) ≤ x1 ∧ x1 < (p0.length : Int)) (
 bnd (F_tiers_find_1 (p0.getD (Int.toNat x1) default) p1) fun r3 =>
 cond (decide (r3 < 0)) (
 some (.inl ((IntKind.wrap .i64 (x1 + 1)), j2.2))) (
 some (.inl (j2.1, x1))))) (
 some (.inr (.inl j2.1)))
noncomputable def F_slices_BinarySearchFunc_api_Blob_api_Blob_api_Blob_w_tiers_find_1 (p0 : List S_Blob) (p1 : S_Blob) : Option (Int × Bool) :=
 bindE (σ := (Int)) (
 loop (L_slices_BinarySearchFunc_api_Blob_api_Blob_api_Blob_w_tiers_find_1_2 p0 p1) (0, (p0.length : Int))) fun j1 =>
 gd ((decide (j1 < (p0.length : Int))) = true → (0 : Int) ≤ j1 ∧ j1 < (p0.length : Int)) (
 bnd (cond (decide (j1 < (p0.length : Int))) (F_tiers_find_1 (p0.getD (Int.toNat j1) default) p1) (some (0))) fun r5 =>
 some (j1, (cond (decide (j1 < (p0.length : Int))) (r5 == 0) false)))
noncomputable def z_slices_BinarySearchFunc_api_Blob_api_Blob_api_Blob_w_tiers_find_1 (p0 : List S_Blob) (p1 : S_Blob) : Cert Tryz.prog 49 (Int × Bool) :=
 .r 2 3 100 [0, 2, 4] [100] <|
 .r 4 3 101 [0, 2, 4, 8] [100] <|
 .r 4 3 101 [0, 2, 4, 8, 9, 10] [100] <|
 .sq 2 (fun j1 : (Int) => ⟨[(0, .c (.d (.ro 3 p0.length (gT fS_Blob p0)))), (2, xv (.func (.func 64) #[] #[])), (4, .c (.np 100 3 0 0)), (8, xi (p0.length : Int)), (9, xi j1)], [(100, .box 59 (bS_Blob p1))]⟩) (
 .s (.cn [0, 2, 4, 8, 9, 10] [100]) <|
 .lp 1 (fun j2 : (Int × Int) => ⟨[(0, .c (.d (.ro 3 p0.length (gT fS_Blob p0)))), (2, xv (.func (.func 64) #[] #[])), (4, .c (.np 100 3 0 0)), (8, xi (p0.length : Int)), (9, xi j2.1), (10, xi j2.2)], [(100, .box 59 (bS_Blob p1))]⟩) (0, (p0.length : Int)) fun j2 =>
 .r 3 3 101 [0, 2, 4, 8, 9, 10, 17] [100] <|
 .cond 2 (
 .rp 5 7 101 [0, 2, 4, 8, 9, 10, 11] [100] (some (((0 : Int) ≤ (1 : Int)))) (ob1 (by decide)) <|
 .bs ((IntKind.wrap .i64 ((Int.fdiv (IntKind.wrap .u64 ((IntKind.wrap .i64 (j2.1 + j2.2)))) (2 ^ (min (Int.toNat 1) 64)))))) [11] xi fun x1 =>
 .s (.cn [0, 2, 4, 8, 9, 10, 11] [100]) <|
 .gd ((0 : Int) ≤ x1 ∧ x1 < (p0.length : Int)) fun g2 =>
 .bind (F_tiers_find_1 (p0.getD (Int.toNat x1) default) p1) fun r3 hr3 =>
 .m 3 <|
 .s (.dr [.callV 6 [] [] (c_tiers_find_1 hr3)] ([(3, some (((0 : Int) ≤ x1 ∧ x1 < (p0.length : Int))))]) (obsAll.cons (ob1 g2) obsAll.nil) [0, 2, 4, 8, 9, 10, 11, 31] [100]) <|
 .cond 2 (
 .r 1 3 101 [0, 2, 4, 8, 9, 10] [100] <|
 .lf 1 [0, 2, 4, 8, 9, 10] [100] (.inl ((IntKind.wrap .i64 (x1 + 1)), j2.2))
 ) (
 .r 1 2 101 [0, 2, 4, 8, 9, 10] [100] <|
 .lf 1 [0, 2, 4, 8, 9, 10] [100] (.inl (j2.1, x1))
 )
 ) (
 .lf 1 [0, 2, 4, 8, 9] [100] (.inr (.inl j2.1))
 )
 ) fun j1 =>
 .s (.cn [0, 2, 4, 8, 9] [100]) <|
 .gd ((decide (j1 < (p0.length : Int))) = true → (0 : Int) ≤ j1 ∧ j1 < (p0.length : Int)) fun g4 =>
 .bind (cond (decide (j1 < (p0.length : Int))) (F_tiers_find_1 (p0.getD (Int.toNat j1) default) p1) (some (0))) fun r5 hr5 =>
 .m 1 <|
 .s (.dr [.callVG 11 (decide (j1 < (p0.length : Int))) (F_tiers_find_1 (p0.getD (Int.toNat j1) default) p1) (0) r5 hr5 [] (let u2 := (decide (j1 < (p0.length : Int))); let u1 := (u2 = true → u2 = true); some ((u1 ∧ (u1 ∧ u1)))) (ob1 (⟨fun h => h, ⟨fun h => h, fun h => h⟩⟩)) (fun r h => (c_tiers_find_1 h))] (let u2 := (decide (j1 < (p0.length : Int))); let u1 := (u2 = true → u2 = true); [(8, some (((u1 ∧ u1) ∧ (u2 = true → (0 : Int) ≤ j1 ∧ j1 < (p0.length : Int))))), (9, some (u1)), (12, some (u1)), (13, some (u1))]) (obsAll.cons (ob1 (⟨⟨fun h => h, fun h => h⟩, g4⟩)) (obsAll.cons (ob1 (fun h => h)) (obsAll.cons (ob1 (fun h => h)) (obsAll.cons (ob1 (fun h => h)) obsAll.nil)))) [6, 7] []) <|
 .lf 3 [6, 7] [] (j1, (cond (decide (j1 < (p0.length : Int))) (r5 == 0) false))
/-- slices.BinarySearchFunc[[]logtide/api.Blob,logtide/api.Blob,logtide/api.Blob] -/
theorem c_slices_BinarySearchFunc_api_Blob_api_Blob_api_Blob_w_tiers_find_1 {p0 : List S_Blob} {p1 : S_Blob} {r : Int × Bool} (h : F_slices_BinarySearchFunc_api_Blob_api_Blob_api_Blob_w_tiers_find_1 p0 p1 = some r) : Spec Tryz.prog 63 [.c (.d (.ro 3 p0.length (gT fS_Blob p0))), .agg (bS_Blob p1), xv (.func (.func 64) #[] #[])] [] (.tup [xi r.1, xb r.2]) [] :=
  Cert.spec [] (fun r : Int × Bool => .tup [xi r.1, xb r.2]) (fun r => []) (z_slices_BinarySearchFunc_api_Blob_api_Blob_api_Blob_w_tiers_find_1 p0 p1) Tryz.func63 rfl (by kernel_rfl) h
noncomputable def F_tiers_find (p0 : List S_Blob) (p1 : Int) (p2 : Int) : Option (Int × Bool) :=
 bnd (F_slices_BinarySearchFunc_api_Blob_api_Blob_api_Blob_w_tiers_find_1 p0 (⟨p1, p2, []⟩ : S_Blob)) fun r1 =>
 some (r1.1, r1.2)
noncomputable def z_tiers_find (p0 : List S_Blob) (p1 : Int) (p2 : Int) : Cert Tryz.prog 15 (Int × Bool) :=
 .r 2 2 100 [0, 1, 2] [] <|
 .r 4 4 100 [8, 11] [] <|
 .bind (F_slices_BinarySearchFunc_api_Blob_api_Blob_api_Blob_w_tiers_find_1 p0 (⟨p1, p2, []⟩ : S_Blob)) fun r1 hr1 =>
 .s (.call [] [] ((c_slices_BinarySearchFunc_api_Blob_api_Blob_api_Blob_w_tiers_find_1 hr1).args (AsImp.cons AImp.same (AsImp.cons (AImp.agg (CsImp.cons CImp.same (CsImp.cons CImp.same (CsImp.cons CImp.nil CsImp.nil)))) (AsImp.cons AImp.same AsImp.nil))))) <|
 .r 0 4 100 [6, 7] [] <|
 .lf 3 [6, 7] [] (r1.1, r1.2)
/-- logtide/tiers.find -/
theorem c_tiers_find {p0 : List S_Blob} {p1 : Int} {p2 : Int} {r : Int × Bool} (h : F_tiers_find p0 p1 p2 = some r) : Spec Tryz.prog 43 [.c (.d (.ro 3 p0.length (gT fS_Blob p0))), xi p1, xi p2] [] (.tup [xi r.1, xb r.2]) [] :=
  Cert.spec [] (fun r : Int × Bool => .tup [xi r.1, xb r.2]) (fun r => []) (z_tiers_find p0 p1 p2) Tryz.func43 rfl (by kernel_rfl) h
noncomputable def F_slices_Clone_byte_byte (p0 : List Int) : Option (List Int) :=
 eqn p0.length fun x1 =>
 cond x1 (
 some ([] : List Int)) (
 gd ((([] : List Int).length + p0.length) * 1 ≤ 140737488355328) (
 some (([] : List Int) ++ p0)))
noncomputable def z_slices_Clone_byte_byte (p0 : List Int) : Cert Tryz.prog 8 (List Int) :=
 .r 2 1 100 [0] [] <|
 .r 5 1 100 [0, 3] [] <|
 .eqNil (p0.length) fun x1 =>
 .r 0 0 100 [0, 4] [] <|
 .cond 2 (
 .r 2 1 100 [2] [] <|
 .s (.own 2 100 5 1 (gT (fInt .u8) [])) <|
 .s (.rn 100 900) <|
 .lf 3 [2] [900] ([] : List Int)
 ) (
 .r 4 0 101 [0] [] <|
 .s (.build0 (fInt .u8) 5 1 101) <|
 .r 0 1 102 [5, 6] [101] <|
 .gd ((([] : List Int).length + p0.length) * 1 ≤ 140737488355328) fun g2 =>
 .s (.appL (fInt .u8) (([] : List Int)) (p0) (gT (fInt .u8) ([] : List Int)) (.inr rfl) 5 1 1 102 g2) <|
 .r 0 1 103 [2] [102] <|
 .s (.rn 102 900) <|
 .lf 3 [2] [900] (([] : List Int) ++ p0)
 )
/-- slices.Clone[[]byte,byte] -/
theorem c_slices_Clone_byte_byte {p0 : List Int} {r : List Int} (h : F_slices_Clone_byte_byte p0 = some r) : Spec Tryz.prog 44 [.c (.d (.ro 1 p0.length (gT (fInt .u8) p0)))] [] (.c (.nm 900)) [(900, .rows 5 1 r.length (gT (fInt .u8) r))] :=
  Cert.spec [900] (fun r : List Int => .c (.nm 900)) (fun r => [(900, .rows 5 1 r.length (gT (fInt .u8) r))]) (z_slices_Clone_byte_byte p0) Tryz.func44 rfl (by kernel_rfl) h
noncomputable def F_tiers_Get (p0 : List S_Blob) (p1 : Int) (p2 : Int) : Option (List Int × Bool) :=
 bnd (F_tiers_find p0 p1 p2) fun r1 =>
 cond (!r1.2) (
 some (([] : List Int), false)) (
 gd ((0 : Int) ≤ r1.1 ∧ r1.1 < (p0.length : Int)) (
 bnd (F_slices_Clone_byte_byte ((p0.getD (Int.toNat r1.1) default).Data)) fun r3 =>
 some (r3, true)))
noncomputable def z_tiers_Get (p0 : List S_Blob) (p1 : Int) (p2 : Int) : Cert Tryz.prog 25 (List Int × Bool) :=
 .r 2 2 100 [0, 1, 2] [] <|
 .r 4 3 100 [0, 11, 12, 13] [] <|
 .bind (F_tiers_find p0 p1 p2) fun r1 hr1 =>
 .s (.call [] [] (c_tiers_find hr1)) <|
 .r 0 5 100 [0, 8, 9] [] <|
 .r 5 2 100 [0, 8, 18] [] <|
 .cond 2 (
 .r 2 2 100 [6, 7] [] <|
 .s (.own 6 100 5 1 (gT (fInt .u8) [])) <|
 .s (.rn 100 900) <|
 .lf 3 [6, 7] [900] (([] : List Int), false)
 ) (
 .gd ((0 : Int) ≤ r1.1 ∧ r1.1 < (p0.length : Int)) fun g2 =>
 .rp 4 5 101 [23] [] (some (((0 : Int) ≤ r1.1 ∧ r1.1 < (p0.length : Int)))) (ob1 g2) <|
 .bind (F_slices_Clone_byte_byte ((p0.getD (Int.toNat r1.1) default).Data)) fun r3 hr3 =>
 .s (.call [] [(900, 101)] (c_slices_Clone_byte_byte hr3)) <|
 .r 0 2 102 [6, 7] [101] <|
 .s (.rn 101 900) <|
 .lf 3 [6, 7] [900] (r3, true)
 )
/-- logtide/tiers.Get -/
theorem c_tiers_Get {p0 : List S_Blob} {p1 : Int} {p2 : Int} {r : List Int × Bool} (h : F_tiers_Get p0 p1 p2 = some r) : Spec Tryz.prog 21 [.c (.d (.ro 3 p0.length (gT fS_Blob p0))), xi p1, xi p2] [] (.tup [.c (.nm 900), xb r.2]) [(900, .rows 5 1 r.1.length (gT (fInt .u8) r.1))] :=
  Cert.spec [900] (fun r : List Int × Bool => .tup [.c (.nm 900), xb r.2]) (fun r => [(900, .rows 5 1 r.1.length (gT (fInt .u8) r.1))]) (z_tiers_Get p0 p1 p2) Tryz.func21 rfl (by kernel_rfl) h
noncomputable def F_law33_awake : Option (Bool) :=
 bnd (F_tiers_Get ([(⟨1, 2, ([7] : List Int)⟩ : S_Blob)] : List S_Blob) 1 2) fun r1 =>
 some (cond r1.2 ((r1.1.length : Int) == 1) false)
noncomputable def z_law33_awake : Cert Tryz.prog 16 (Bool) :=
 .r 2 1 100 [] [] <|
 .r 4 3 100 [6] [] <|
 .bind (F_tiers_Get ([(⟨1, 2, ([7] : List Int)⟩ : S_Blob)] : List S_Blob) 1 2) fun r1 hr1 =>
 .s (.call [] [(900, 100)] ((c_tiers_Get hr1).args (AsImp.cons (AImp.c (CImp.tab (g := litGet 3 ((dS_Blob (⟨1, 2, ([7] : List Int)⟩ : S_Blob)))) (g' := gT fS_Blob ([(⟨1, 2, ([7] : List Int)⟩ : S_Blob)] : List S_Blob)) (n := 1) (by kernel_rfl))) (AsImp.cons AImp.same (AsImp.cons AImp.same AsImp.nil))))) <|
 .r 0 5 101 [1, 2] [100] <|
 .rp 4 7 101 [0] [] (some (((r1.2 = true → r1.2 = true) ∧ ((r1.2 = true → r1.2 = true) ∧ (r1.2 = true → r1.2 = true))))) (ob1 (⟨fun h => h, ⟨fun h => h, (fun h => h)⟩⟩)) <|
 .lf 3 [0] [] (cond r1.2 ((r1.1.length : Int) == 1) false)
/-- logtide/logtidelaw33.awake -/
theorem c_law33_awake {r : Bool} (h : F_law33_awake = some r) : Spec Tryz.prog 6 [] [] (xb r) [] :=
  Cert.spec [] (fun r : Bool => xb r) (fun r => []) (z_law33_awake ) Tryz.func6 rfl (by kernel_rfl) h
noncomputable def F_draw_Codes_Left (p0 : S_draw_Codes) : Option (Bool × S_draw_Codes) :=
 some ((decide (p0.x_at < (p0.x_list.length : Int))), p0)
noncomputable def z_draw_Codes_Left (p0 : S_draw_Codes) : Cert Tryz.prog 13 (Bool × S_draw_Codes) :=
 .r 2 1 100 [0] [1] <|
 .s (.cn [0] [1]) <|
 .m 3 <|
 .s (.dr [] ([]) obsAll.nil [2] [1]) <|
 .lf 3 [2] [1] ((decide (p0.x_at < (p0.x_list.length : Int))), p0)
/-- (*logtide/logtidedraw.Codes).Left -/
theorem c_draw_Codes_Left {p0 : S_draw_Codes} {r : Bool × S_draw_Codes} (h : F_draw_Codes_Left p0 = some r) : Spec Tryz.prog 32 [.c (.np 1 2 0 0)] [(1, .box 76 (bS_draw_Codes p0))] (xb r.1) [(1, .box 76 (bS_draw_Codes r.2))] :=
  Cert.spec [1] (fun r : Bool × S_draw_Codes => xb r.1) (fun r => [(1, .box 76 (bS_draw_Codes r.2))]) (z_draw_Codes_Left p0) Tryz.func32 rfl (by kernel_rfl) h
noncomputable def F_draw_Codes_Next (p0 : S_draw_Codes) (p1 : Int) : Option (Int × S_draw_Codes) :=
 bnd (F_draw_Codes_Left p0) fun r1 =>
 cond (cond (!r1.1) true (decide (p1 < 1))) (
 some (0, r1.2)) (
 gd ((0 : Int) ≤ r1.2.x_at ∧ r1.2.x_at < (r1.2.x_list.length : Int)) (
 bd (IntKind.wrap .i64 (Int.tdiv (IntKind.wrap .i64 ((IntKind.wrap .i64 ((r1.2.x_list.getD (Int.toNat r1.2.x_at) default))) * p1)) 256)) fun x3 =>
 some (x3, { r1.2 with x_at := (IntKind.wrap .i64 (r1.2.x_at + 1)) })))
noncomputable def z_draw_Codes_Next (p0 : S_draw_Codes) (p1 : Int) : Cert Tryz.prog 35 (Int × S_draw_Codes) :=
 .r 2 1 100 [0, 1] [1] <|
 .r 5 1 100 [0, 1, 6] [1] <|
 .bind (F_draw_Codes_Left p0) fun r1 hr1 =>
 .s (.call [(1, 1)] [] (c_draw_Codes_Left hr1)) <|
 .rp 0 5 100 [0, 1, 12] [1] (some ((((!(!r1.1)) = true → (!(!r1.1)) = true) ∧ ((!r1.1) = false → (!(!r1.1)) = true)))) (ob1 (⟨fun h => h, (fun h => by rw [h]; rfl)⟩)) <|
 .cond 2 (
 .r 2 1 100 [4] [1] <|
 .lf 3 [4] [1] (0, r1.2)
 ) (
 .s (.cn [0, 1] [1]) <|
 .gd ((0 : Int) ≤ r1.2.x_at ∧ r1.2.x_at < (r1.2.x_list.length : Int)) fun g2 =>
 .m 3 <|
 .s (.dr [] ([(8, some (((0 : Int) ≤ r1.2.x_at ∧ r1.2.x_at < (r1.2.x_list.length : Int))))]) (obsAll.cons (ob1 g2) obsAll.nil) [0, 1, 5] [1]) <|
 .r 4 8 100 [1, 5] [1] <|
 .rp 4 5 100 [4] [1] (some (((256 : Int) ≠ 0))) (ob1 (by decide)) <|
 .bs ((IntKind.wrap .i64 (Int.tdiv (IntKind.wrap .i64 ((IntKind.wrap .i64 ((r1.2.x_list.getD (Int.toNat r1.2.x_at) default))) * p1)) 256))) [4] xi fun x3 =>
 .lf 3 [4] [1] (x3, { r1.2 with x_at := (IntKind.wrap .i64 (r1.2.x_at + 1)) })
 )
/-- (*logtide/logtidedraw.Codes).Next -/
theorem c_draw_Codes_Next {p0 : S_draw_Codes} {p1 : Int} {r : Int × S_draw_Codes} (h : F_draw_Codes_Next p0 p1 = some r) : Spec Tryz.prog 11 [.c (.np 1 2 0 0), xi p1] [(1, .box 76 (bS_draw_Codes p0))] (xi r.1) [(1, .box 76 (bS_draw_Codes r.2))] :=
  Cert.spec [1] (fun r : Int × S_draw_Codes => xi r.1) (fun r => [(1, .box 76 (bS_draw_Codes r.2))]) (z_draw_Codes_Next p0 p1) Tryz.func11 rfl (by kernel_rfl) h
noncomputable def F_draw_New (p0 : List Int) (p1 : Int) : Option (S_draw_Codes) :=
 gd ((0 : Int) ≤ (0 : Int) ∧ (0 : Int) ≤ ((if p1 < (p0.length : Int) then p1 else (p0.length : Int)) : Int) ∧ ((if p1 < (p0.length : Int) then p1 else (p0.length : Int)) : Int) ≤ (p0.length : Int)) (
 bd (⟨(sub p0 0 (if p1 < (p0.length : Int) then p1 else (p0.length : Int))), (0 : Int)⟩ : S_draw_Codes) fun x2 =>
 some x2)
noncomputable def z_draw_New (p0 : List Int) (p1 : Int) : Cert Tryz.prog 13 (S_draw_Codes) :=
 .r 2 1 100 [0, 1] [] <|
 .gd ((0 : Int) ≤ (0 : Int) ∧ (0 : Int) ≤ ((if p1 < (p0.length : Int) then p1 else (p0.length : Int)) : Int) ∧ ((if p1 < (p0.length : Int) then p1 else (p0.length : Int)) : Int) ≤ (p0.length : Int)) fun g1 =>
 .rp 4 6 100 [10] [] (let u1 := ((if p1 < (p0.length : Int) then p1 else (p0.length : Int)) : Int); some (((0 : Int) ≤ (0 : Int) ∧ (0 : Int) ≤ u1 ∧ u1 ≤ (p0.length : Int)))) (ob1 g1) <|
 .s (.imp 10 (.c (.d (.ro 1 (sub p0 0 (if p1 < (p0.length : Int) then p1 else (p0.length : Int))).length (gT (fInt .u8) (sub p0 0 (if p1 < (p0.length : Int) then p1 else (p0.length : Int))))))) (AImp.c (CImp.sub g1))) <|
 .r 0 3 100 [4] [100] <|
 .bh ((⟨(sub p0 0 (if p1 < (p0.length : Int) then p1 else (p0.length : Int))), (0 : Int)⟩ : S_draw_Codes)) 100 (fun x2 => .box 76 (bS_draw_Codes x2)) fun x2 =>
 .s (.rn 100 900) <|
 .lf 3 [4] [900] x2
/-- logtide/logtidedraw.New -/
theorem c_draw_New {p0 : List Int} {p1 : Int} {r : S_draw_Codes} (h : F_draw_New p0 p1 = some r) : Spec Tryz.prog 22 [.c (.d (.ro 1 p0.length (gT (fInt .u8) p0))), xi p1] [] (.c (.np 900 2 0 0)) [(900, .box 76 (bS_draw_Codes r))] :=
  Cert.spec [900] (fun r : S_draw_Codes => .c (.np 900 2 0 0)) (fun r => [(900, .box 76 (bS_draw_Codes r))]) (z_draw_New p0 p1) Tryz.func22 rfl (by kernel_rfl) h
end Go.Abs
