/- DERIVED. Printed by gen.py of this repo. -/
import Derived.Test.YtlhiaclmbegaiaaGreatF8
set_option linter.unusedVariables false
set_option linter.unusedSimpArgs false
set_option maxRecDepth 100000
namespace Go.Abs
open Go.Proofs
noncomputable def F_r27_Summary (p0 : List Int) : Option (S_Summary × Int) :=
 cond (decide ((p0.length : Int) < 124)) (
 some ((⟨(0 : Int), (0 : Int), (0 : Int)⟩ : S_Summary), 14)) (
 gd ((0 : Int) ≤ (0 : Int) ∧ (0 : Int) ≤ (4 : Int) ∧ (4 : Int) ≤ (p0.length : Int)) (
 bd (!((strOf (sub p0 0 4).length fun i => (sub p0 0 4).getD i default).toList == (ByteArray.mk #[76, 84, 83, 49]).toList)) fun x2 =>
 cond x2 (
 some ((⟨(0 : Int), (0 : Int), (0 : Int)⟩ : S_Summary), 1)) (
 gd ((0 : Int) ≤ (120 : Int) ∧ (120 : Int) ≤ (124 : Int) ∧ (124 : Int) ≤ (p0.length : Int)) (
 bnd (F_r27_Get (sub p0 120 124)) fun r4 =>
 gd ((0 : Int) ≤ (0 : Int) ∧ (0 : Int) ≤ (120 : Int) ∧ (120 : Int) ≤ (p0.length : Int)) (
 bnd (F_r27_Crc (sub p0 0 120)) fun r6 =>
 cond (r4 != (IntKind.wrap .u64 (r6))) (
 some ((⟨(0 : Int), (0 : Int), (0 : Int)⟩ : S_Summary), 15)) (
 bnd (F_r27_place p0 12) fun r7 =>
 cond ((p0.length : Int) != (IntKind.wrap .i64 (r7.1 + r7.2))) (
 some ((⟨(0 : Int), (0 : Int), (0 : Int)⟩ : S_Summary), 14)) (
 gd ((0 : Int) ≤ (4 : Int) ∧ (4 : Int) ≤ (8 : Int) ∧ (8 : Int) ≤ (p0.length : Int)) (
 bnd (F_r27_Get (sub p0 4 8)) fun r9 =>
 gd ((0 : Int) ≤ (8 : Int) ∧ (8 : Int) ≤ (16 : Int) ∧ (16 : Int) ≤ (p0.length : Int)) (
 bnd (F_r27_Get (sub p0 8 16)) fun r11 =>
 gd ((0 : Int) ≤ (16 : Int) ∧ (16 : Int) ≤ (24 : Int) ∧ (24 : Int) ≤ (p0.length : Int)) (
 bnd (F_r27_Get (sub p0 16 24)) fun r13 =>
 bd (⟨(IntKind.wrap .i64 (r9)), (IntKind.wrap .i64 (r11)), (IntKind.wrap .i64 (r13))⟩ : S_Summary) fun x14 =>
 some (x14, 0)))))))))))
noncomputable def z_r27_Summary (p0 : List Int) : Cert Tryz.prog 49 (S_Summary × Int) :=
 .r 2 2 100 [0, 2] [100] <|
 .r 5 3 101 [0, 2, 8] [100] <|
 .cond 2 (
 .r 2 3 101 [2, 3] [100] <|
 .lf 3 [2, 3] [100] ((⟨(0 : Int), (0 : Int), (0 : Int)⟩ : S_Summary), 14)
 ) (
 .gd ((0 : Int) ≤ (0 : Int) ∧ (0 : Int) ≤ (4 : Int) ∧ (4 : Int) ≤ (p0.length : Int)) fun g1 =>
 .rp 5 2 101 [0, 2, 11] [100] (some (((0 : Int) ≤ (0 : Int) ∧ (0 : Int) ≤ (4 : Int) ∧ (4 : Int) ≤ (p0.length : Int)))) (ob1 g1) <|
 .s (.imp 11 (.c (.d (.ro 1 (sub p0 0 4).length (gT (fInt .u8) (sub p0 0 4))))) (AImp.c (CImp.sub g1))) <|
 .rp 0 2 101 [0, 2, 13] [100] (some ((∃ f : Nat → Int, gT fU8 (sub p0 0 4) = fun i _ => .v (.int .u8 (f i))))) (ob1 (⟨fun i => (sub p0 0 4).getD i default, rfl⟩)) <|
 .bs ((!((strOf (sub p0 0 4).length fun i => (sub p0 0 4).getD i default).toList == (ByteArray.mk #[76, 84, 83, 49]).toList))) [13] xb fun x2 =>
 .cond 2 (
 .r 2 3 101 [2, 3] [100] <|
 .lf 3 [2, 3] [100] ((⟨(0 : Int), (0 : Int), (0 : Int)⟩ : S_Summary), 1)
 ) (
 .s (.cn [0, 2] [100]) <|
 .gd ((0 : Int) ≤ (120 : Int) ∧ (120 : Int) ≤ (124 : Int) ∧ (124 : Int) ≤ (p0.length : Int)) fun g3 =>
 .bind (F_r27_Get (sub p0 120 124)) fun r4 hr4 =>
 .gd ((0 : Int) ≤ (0 : Int) ∧ (0 : Int) ≤ (120 : Int) ∧ (120 : Int) ≤ (p0.length : Int)) fun g5 =>
 .bind (F_r27_Crc (sub p0 0 120)) fun r6 hr6 =>
 .m 4 <|
 .s (.dr [.call 2 [] [] ((c_r27_Get hr4).args (AsImp.cons (AImp.c (CImp.sub g3)) AsImp.nil)), .call 5 [] [] ((c_r27_Crc hr6).args (AsImp.cons (AImp.c (CImp.sub g5)) AsImp.nil))] ([(1, some (((0 : Int) ≤ (120 : Int) ∧ (120 : Int) ≤ (124 : Int) ∧ (124 : Int) ≤ (p0.length : Int)))), (4, some (((0 : Int) ≤ (0 : Int) ∧ (0 : Int) ≤ (120 : Int) ∧ (120 : Int) ≤ (p0.length : Int))))]) (obsAll.cons (ob1 g3) (obsAll.cons (ob1 g5) obsAll.nil)) [0, 2, 22] [100]) <|
 .cond 2 (
 .r 2 3 101 [2, 3] [100] <|
 .lf 3 [2, 3] [100] ((⟨(0 : Int), (0 : Int), (0 : Int)⟩ : S_Summary), 15)
 ) (
 .r 5 1 101 [0, 2, 25] [100] <|
 .bind (F_r27_place p0 12) fun r7 hr7 =>
 .s (.call [] [] (c_r27_place hr7)) <|
 .r 0 5 101 [0, 2, 4, 5] [100] <|
 .r 4 6 101 [0, 2, 34] [100] <|
 .cond 2 (
 .r 2 3 101 [2, 3] [100] <|
 .lf 3 [2, 3] [100] ((⟨(0 : Int), (0 : Int), (0 : Int)⟩ : S_Summary), 14)
 ) (
 .s (.cn [0, 2] [100]) <|
 .gd ((0 : Int) ≤ (4 : Int) ∧ (4 : Int) ≤ (8 : Int) ∧ (8 : Int) ≤ (p0.length : Int)) fun g8 =>
 .bind (F_r27_Get (sub p0 4 8)) fun r9 hr9 =>
 .gd ((0 : Int) ≤ (8 : Int) ∧ (8 : Int) ≤ (16 : Int) ∧ (16 : Int) ≤ (p0.length : Int)) fun g10 =>
 .bind (F_r27_Get (sub p0 8 16)) fun r11 hr11 =>
 .gd ((0 : Int) ≤ (16 : Int) ∧ (16 : Int) ≤ (24 : Int) ∧ (24 : Int) ≤ (p0.length : Int)) fun g12 =>
 .bind (F_r27_Get (sub p0 16 24)) fun r13 hr13 =>
 .m 3 <|
 .s (.dr [.call 2 [] [] ((c_r27_Get hr9).args (AsImp.cons (AImp.c (CImp.sub g8)) AsImp.nil)), .call 6 [] [] ((c_r27_Get hr11).args (AsImp.cons (AImp.c (CImp.sub g10)) AsImp.nil)), .call 10 [] [] ((c_r27_Get hr13).args (AsImp.cons (AImp.c (CImp.sub g12)) AsImp.nil)), .stB 13 100 3 0 78 (bS_Summary (⟨(0 : Int), (0 : Int), (0 : Int)⟩ : S_Summary)) (bS_Summary (⟨(IntKind.wrap .i64 (r9)), (IntKind.wrap .i64 (r11)), (IntKind.wrap .i64 (r13))⟩ : S_Summary))] ([(1, some (((0 : Int) ≤ (4 : Int) ∧ (4 : Int) ≤ (8 : Int) ∧ (8 : Int) ≤ (p0.length : Int)))), (5, some (((0 : Int) ≤ (8 : Int) ∧ (8 : Int) ≤ (16 : Int) ∧ (16 : Int) ≤ (p0.length : Int)))), (9, some (((0 : Int) ≤ (16 : Int) ∧ (16 : Int) ≤ (24 : Int) ∧ (24 : Int) ≤ (p0.length : Int))))]) (obsAll.cons (ob1 g8) (obsAll.cons (ob1 g10) (obsAll.cons (ob1 g12) obsAll.nil))) [2, 3] [100]) <|
 .bh ((⟨(IntKind.wrap .i64 (r9)), (IntKind.wrap .i64 (r11)), (IntKind.wrap .i64 (r13))⟩ : S_Summary)) 100 (fun x14 => .box 78 (bS_Summary x14)) fun x14 =>
 .lf 3 [2, 3] [100] (x14, 0)
 )
 )
 )
 )
/-- logtide/logtideref27.Summary -/
theorem c_r27_Summary {p0 : List Int} {r : S_Summary × Int} (h : F_r27_Summary p0 = some r) : Spec Tryz.prog 35 [.c (.d (.ro 1 p0.length (gT (fInt .u8) p0)))] [] (.tup [.agg (bS_Summary r.1), xi r.2]) [] :=
  Cert.spec [] (fun r : S_Summary × Int => .tup [.agg (bS_Summary r.1), xi r.2]) (fun r => []) (z_r27_Summary p0) Tryz.func35 rfl (by kernel_rfl) h
noncomputable def F_r33_Load (p0 : List S_Blob) (p1 : S_Manifest) (p2 : Int) : Option (List Int × Int) :=
 bnd (F_r30_Find p1 p2) fun r1 =>
 cond (!r1.2) (
 some (([] : List Int), 9)) (
 bnd (F_r33_Get p0 p2 r1.1.Tier) fun r2 =>
 bnd (F_r27_Summary r2.1) fun r3 =>
 cond (cond (!r2.2) true (r3.2 != 0)) (
 some (([] : List Int), 25)) (
 some (r2.1, 0)))
noncomputable def z_r33_Load (p0 : List S_Blob) (p1 : S_Manifest) (p2 : Int) : Cert Tryz.prog 41 (List Int × Int) :=
 .r 2 3 100 [0, 2, 4] [100] <|
 .r 4 2 101 [0, 2, 14, 15] [] <|
 .bind (F_r30_Find p1 p2) fun r1 hr1 =>
 .s (.call [] [] (c_r30_Find hr1)) <|
 .r 0 6 101 [0, 2, 8, 9] [101] <|
 .r 5 2 102 [0, 2, 8, 20] [101] <|
 .cond 2 (
 .r 2 2 102 [6, 7] [] <|
 .s (.imp 6 (.c (.d (.ro 1 ([] : List Int).length (gT (fInt .u8) ([] : List Int))))) (AImp.c CImp.nil)) <|
 .lf 3 [6, 7] [] (([] : List Int), 9)
 ) (
 .r 4 4 102 [22, 23, 25] [] <|
 .bind (F_r33_Get p0 p2 r1.1.Tier) fun r2 hr2 =>
 .s (.call [] [(900, 102)] (c_r33_Get hr2)) <|
 .r 0 5 103 [9, 10] [102] <|
 .r 5 1 103 [9, 10, 30] [102] <|
 .s (.fz 102) <|
 .bind (F_r27_Summary r2.1) fun r3 hr3 =>
 .s (.call [] [] (c_r27_Summary hr3)) <|
 .r 0 6 103 [9, 10, 12] [] <|
 .rp 4 6 104 [10, 39] [] (some ((((!(!r2.2)) = true → (!(!r2.2)) = true) ∧ ((!r2.2) = false → (!(!r2.2)) = true)))) (ob1 (⟨fun h => h, (fun h => by rw [h]; rfl)⟩)) <|
 .cond 2 (
 .r 2 2 104 [6, 7] [] <|
 .s (.imp 6 (.c (.d (.ro 1 ([] : List Int).length (gT (fInt .u8) ([] : List Int))))) (AImp.c CImp.nil)) <|
 .lf 3 [6, 7] [] (([] : List Int), 25)
 ) (
 .r 4 3 104 [6, 7] [] <|
 .lf 3 [6, 7] [] (r2.1, 0)
 )
 )
/-- logtide/logtideref33.Load -/
theorem c_r33_Load {p0 : List S_Blob} {p1 : S_Manifest} {p2 : Int} {r : List Int × Int} (h : F_r33_Load p0 p1 p2 = some r) : Spec Tryz.prog 13 [.c (.d (.ro 3 p0.length (gT fS_Blob p0))), .agg (bS_Manifest p1), xi p2] [] (.tup [.c (.d (.ro 1 r.1.length (gT (fInt .u8) r.1))), xi r.2]) [] :=
  Cert.spec [] (fun r : List Int × Int => .tup [.c (.d (.ro 1 r.1.length (gT (fInt .u8) r.1))), xi r.2]) (fun r => []) (z_r33_Load p0 p1 p2) Tryz.func13 rfl (by kernel_rfl) h
noncomputable def L_law33_TiersCleanLoad_2 (p1 : Int) (r6 : Int × S_draw_Codes) (r7 : Int × S_draw_Codes) (r2 : List S_Blob × S_Manifest × S_draw_Codes) (j2 : Int) : Option ((Int) ⊕ ((Unit) ⊕ (Bool))) :=
 cond (decide (j2 < (([p1, r6.1, r7.1] : List Int).length : Int))) (
 gd ((0 : Int) ≤ j2 ∧ j2 < (([p1, r6.1, r7.1] : List Int).length : Int)) (
 bnd (F_tiers_Load r2.1 r2.2.1 (([p1, r6.1, r7.1] : List Int).getD (Int.toNat j2) default)) fun r9 =>
 bnd (F_r33_Load r2.1 r2.2.1 (([p1, r6.1, r7.1] : List Int).getD (Int.toNat j2) default)) fun r10 =>
 bnd (cond (!(r9.2 != r10.2)) (F_r23_SameBytes r9.1 r10.1) (some (false))) fun r11 =>
 cond (cond (r9.2 != r10.2) true (!r11)) (
 some (.inr (.inr (false)))) (
 some (.inl (IntKind.wrap .i64 (j2 + 1)))))) (
 some (.inr (.inl ())))
noncomputable def F_law33_TiersCleanLoad (p0 : List Int) (p1 : Int) : Option (Bool) :=
 bnd (F_law33_awake) fun r1 =>
 cond (!r1) (
 some false) (
 bnd (F_law33_scene p0 true) fun r2 =>
 bnd (F_tiers_Clean r2.1 r2.2.1) fun r3 =>
 bnd (F_r33_Clean r2.1 r2.2.1) fun r4 =>
 bnd (F_r33_Same r3 r4) fun r5 =>
 cond (!r5) (
 some false) (
 bindE (σ := (Unit)) (
 bnd (F_draw_Codes_Next r2.2.2 4) fun r6 =>
 bnd (F_draw_Codes_Next r6.2 4) fun r7 =>
 loop (L_law33_TiersCleanLoad_2 p1 r6 r7 r2) 0) fun j1 =>
 some true))
noncomputable def z_law33_TiersCleanLoad (p0 : List Int) (p1 : Int) : Cert Tryz.prog 65 (Bool) :=
 .r 2 1 100 [0, 1] [] <|
 .r 5 0 100 [0, 1] [] <|
 .bind (F_law33_awake) fun r1 hr1 =>
 .s (.call [] [] (c_law33_awake hr1)) <|
 .r 0 1 100 [0, 1, 15] [] <|
 .cond 2 (
 .r 2 1 100 [4] [] <|
 .lf 3 [4] [] false
 ) (
 .r 4 1 100 [1, 17] [] <|
 .bind (F_law33_scene p0 true) fun r2 hr2 =>
 .s (.call [] [(900, 100), (902, 101)] (c_law33_scene hr2)) <|
 .r 0 8 102 [1, 5, 6, 7] [100, 101, 102] <|
 .s (.fz 100) <|
 .s (.cn [1, 5, 6, 7] [101, 102]) <|
 .bind (F_tiers_Clean r2.1 r2.2.1) fun r3 hr3 =>
 .bind (F_r33_Clean r2.1 r2.2.1) fun r4 hr4 =>
 .bind (F_r33_Same r3 r4) fun r5 hr5 =>
 .m 4 <|
 .s (.dr [.call 2 [] [(900, 103)] (c_tiers_Clean hr3), .call 5 [] [] ((c_r33_Clean hr4).frz 900 59 3 _ _ _ _ rfl rfl rfl), .call 6 [(60, 103)] [] (Spec.lend 60 59 3 r3.length (gT fS_Blob r3) _ (c_r33_Same hr5) (args := [.c (.nm 60), .c (.d (.ro 3 r4.length (gT fS_Blob r4)))]) rfl rfl rfl (by repeat (first | trivial | refine ⟨fun _ _ => ⟨_, rfl⟩, ?_⟩)))] ([]) obsAll.nil [1, 5, 6, 7, 29] [101, 102]) <|
 .cond 2 (
 .r 2 1 104 [4] [] <|
 .lf 3 [4] [] false
 ) (
 .sq 2 (fun j1 : (Unit) => ⟨[], []⟩) (
 .r 2 2 104 [5, 6, 7, 30, 31] [101, 102] <|
 .bind (F_draw_Codes_Next r2.2.2 4) fun r6 hr6 =>
 .s (.call [(1, 101)] [] (c_draw_Codes_Next hr6)) <|
 .r 0 1 104 [5, 6, 30, 32, 33] [101, 102] <|
 .bind (F_draw_Codes_Next r6.2 4) fun r7 hr7 =>
 .s (.call [(1, 101)] [] (c_draw_Codes_Next hr7)) <|
 .r 0 3 104 [5, 6, 35, 36, 37] [102] <|
 .s (.cn [5, 6, 35, 36, 37] [102]) <|
 .lp 3 (fun j2 : (Int) => ⟨[(5, .c (.d (.ro 3 r2.1.length (gT fS_Blob r2.1)))), (6, .c (.np 102 7 0 0)), (35, .c (.d (.ro 1 ([p1, r6.1, r7.1] : List Int).length (gT (fInt .i64) ([p1, r6.1, r7.1] : List Int))))), (36, xi (([p1, r6.1, r7.1] : List Int).length : Int)), (37, xi j2)], [(102, .box 31 (bS_Manifest r2.2.1))]⟩) 0 fun j2 =>
 .r 2 1 104 [5, 6, 35, 36, 37, 38] [102] <|
 .cond 3 (
 .gd ((0 : Int) ≤ j2 ∧ j2 < (([p1, r6.1, r7.1] : List Int).length : Int)) fun g8 =>
 .rp 6 3 104 [5, 6, 9, 35, 36, 37] [102] (some (((0 : Int) ≤ j2 ∧ j2 < (([p1, r6.1, r7.1] : List Int).length : Int)))) (ob1 g8) <|
 .r 4 3 104 [5, 6, 9, 35, 36, 37, 42, 43, 44] [102] <|
 .bind (F_tiers_Load r2.1 r2.2.1 (([p1, r6.1, r7.1] : List Int).getD (Int.toNat j2) default)) fun r9 hr9 =>
 .s (.call [] [] (c_tiers_Load hr9)) <|
 .r 0 5 104 [5, 6, 9, 10, 11, 35, 36, 37] [102] <|
 .r 4 3 104 [5, 6, 10, 11, 35, 36, 37, 49, 50, 51] [102] <|
 .bind (F_r33_Load r2.1 r2.2.1 (([p1, r6.1, r7.1] : List Int).getD (Int.toNat j2) default)) fun r10 hr10 =>
 .s (.call [] [] (c_r33_Load hr10)) <|
 .r 0 5 104 [5, 6, 10, 11, 12, 13, 35, 36, 37] [102] <|
 .r 4 6 104 [5, 6, 35, 36, 37, 58, 59, 60] [102] <|
 .callG (!(r9.2 != r10.2)) (F_r23_SameBytes r9.1 r10.1) (false) [] (some ((((!(r9.2 != r10.2)) = true → (!(r9.2 != r10.2)) = true) ∧ ((!(r9.2 != r10.2)) = true → (!(r9.2 != r10.2)) = true)))) (ob1 (⟨fun h => h, fun h => h⟩)) (fun r h => (c_r23_SameBytes h)) fun r11 =>
 .rp 0 2 104 [5, 6, 35, 36, 37, 63] [102] (some ((((!(r9.2 != r10.2)) = true → (!(r9.2 != r10.2)) = true) ∧ ((r9.2 != r10.2) = false → (!(r9.2 != r10.2)) = true)))) (ob1 (⟨fun h => h, (fun h => by rw [h]; rfl)⟩)) <|
 .cond 2 (
 .r 2 1 104 [4] [] <|
 .lf 3 [4] [] (.inr (.inr (false)))
 ) (
 .r 4 2 104 [5, 6, 35, 36, 37] [102] <|
 .lf 1 [5, 6, 35, 36, 37] [102] (.inl (IntKind.wrap .i64 (j2 + 1)))
 )
 ) (
 .lf 1 [] [] (.inr (.inl ()))
 )
 ) fun j1 =>
 .r 2 1 104 [4] [] <|
 .lf 3 [4] [] true
 )
 )
/-- logtide/logtidelaw33.TiersCleanLoad -/
theorem c_law33_TiersCleanLoad {p0 : List Int} {p1 : Int} {r : Bool} (h : F_law33_TiersCleanLoad p0 p1 = some r) : Spec Tryz.prog 3 [.c (.d (.ro 1 p0.length (gT (fInt .u8) p0))), xi p1] [] (xb r) [] :=
  Cert.spec [] (fun r : Bool => xb r) (fun r => []) (z_law33_TiersCleanLoad p0 p1) Tryz.func3 rfl (by kernel_rfl) h
noncomputable def F_draw_Mod (p0 : Int) (p1 : Int) : Option (Int) :=
 cond (decide (p1 < 1)) (
 some 0) (
 gd ((p1 : Int) ≠ 0) (
 some (Int.tmod (IntKind.wrap .i64 ((Int.tmod p0 p1) + p1)) p1)))
noncomputable def z_draw_Mod (p0 : Int) (p1 : Int) : Cert Tryz.prog 14 (Int) :=
 .r 2 1 100 [0, 1] [] <|
 .r 5 2 100 [0, 1, 6] [] <|
 .cond 2 (
 .r 2 1 100 [4] [] <|
 .lf 3 [4] [] 0
 ) (
 .gd ((p1 : Int) ≠ 0) fun g1 =>
 .rp 4 8 100 [4] [] (some ((((p1 : Int) ≠ 0) ∧ ((p1 : Int) ≠ 0)))) (ob1 (⟨g1, g1⟩)) <|
 .lf 3 [4] [] (Int.tmod (IntKind.wrap .i64 ((Int.tmod p0 p1) + p1)) p1)
 )
/-- logtide/logtidedraw.Mod -/
theorem c_draw_Mod {p0 : Int} {p1 : Int} {r : Int} (h : F_draw_Mod p0 p1 = some r) : Spec Tryz.prog 15 [xi p0, xi p1] [] (xi r) [] :=
  Cert.spec [] (fun r : Int => xi r) (fun r => []) (z_draw_Mod p0 p1) Tryz.func15 rfl (by kernel_rfl) h
noncomputable def F_tiers_check (p0 : S_Manifest) (p1 : Int) (p2 : Int) : Option (S_SegmentInfo × Int) :=
 bd (⟨(0 : Int), (0 : Int), (0 : Int), (0 : Int), (0 : Int), (0 : Int), (0 : Int)⟩ : S_SegmentInfo) fun x1 =>
 bnd (F_manifest_Find p0 p1) fun r2 =>
 cond (!r2.2) (
 some (r2.1, 9)) (
 cond (cond (decide (p2 < 0)) true (decide (p2 > 2))) (
 some (r2.1, 2)) (
 some (r2.1, 0)))
noncomputable def z_tiers_check (p0 : S_Manifest) (p1 : Int) (p2 : Int) : Cert Tryz.prog 29 (S_SegmentInfo × Int) :=
 .r 2 3 100 [1, 2, 3, 6] [100, 101] <|
 .bh ((⟨(0 : Int), (0 : Int), (0 : Int), (0 : Int), (0 : Int), (0 : Int), (0 : Int)⟩ : S_SegmentInfo)) 101 (fun x1 => .box 54 (bS_SegmentInfo x1)) fun x1 =>
 .r 4 2 102 [2, 6, 11, 12] [101] <|
 .bind (F_manifest_Find p0 p1) fun r2 hr2 =>
 .s (.call [] [] (c_manifest_Find hr2)) <|
 .r 0 6 102 [2, 6, 8, 9] [101, 102] <|
 .r 6 3 103 [2, 6, 8, 16] [101, 102] <|
 .cond 2 (
 .r 2 3 103 [6, 7] [101] <|
 .lf 3 [6, 7] [101] (r2.1, 9)
 ) (
 .rp 2 7 103 [6, 8, 20] [101, 102] (some ((((!(decide (p2 < 0))) = true → (!(decide (p2 < 0))) = true) ∧ ((decide (p2 < 0)) = false → (!(decide (p2 < 0))) = true)))) (ob1 (⟨fun h => h, (fun h => by rw [h]; rfl)⟩)) <|
 .cond 2 (
 .r 2 3 103 [6, 7] [101] <|
 .lf 3 [6, 7] [101] (r2.1, 2)
 ) (
 .r 5 3 103 [6, 7] [101] <|
 .lf 3 [6, 7] [101] (r2.1, 0)
 )
 )
/-- logtide/tiers.check -/
theorem c_tiers_check {p0 : S_Manifest} {p1 : Int} {p2 : Int} {r : S_SegmentInfo × Int} (h : F_tiers_check p0 p1 p2 = some r) : Spec Tryz.prog 36 [.agg (bS_Manifest p0), xi p1, xi p2] [] (.tup [.agg (bS_SegmentInfo r.1), xi r.2]) [] :=
  Cert.spec [] (fun r : S_SegmentInfo × Int => .tup [.agg (bS_SegmentInfo r.1), xi r.2]) (fun r => []) (z_tiers_check p0 p1 p2) Tryz.func36 rfl (by kernel_rfl) h
noncomputable def L_segment_Section_2 (r1 : S_Summary × List S_segment_entry × Int) (p1 : Int) (j2 : Int × Int) : Option ((Int × Int) ⊕ ((Int) ⊕ (List Int × Int))) :=
 cond (decide (j2.2 < ((sub r1.2.1 0 (IntKind.wrap .i64 (p1 - 1))).length : Int))) (
 gd ((0 : Int) ≤ j2.2 ∧ j2.2 < ((sub r1.2.1 0 (IntKind.wrap .i64 (p1 - 1))).length : Int)) (
 bd (IntKind.wrap .i64 (j2.1 + (((sub r1.2.1 0 (IntKind.wrap .i64 (p1 - 1))).getD (Int.toNat j2.2) default).x_length))) fun x4 =>
 some (.inl (x4, (IntKind.wrap .i64 (j2.2 + 1)))))) (
 some (.inr (.inl j2.1)))
noncomputable def F_segment_Section (p0 : List Int) (p1 : Int) : Option (List Int × Int) :=
 cond (cond (decide (p1 < 1)) true (decide (p1 > 12))) (
 some (([] : List Int), 2)) (
 bnd (F_segment_parse p0) fun r1 =>
 cond (r1.2.2 != 0) (
 some (([] : List Int), r1.2.2)) (
 bindE (σ := (Int)) (
 gd ((0 : Int) ≤ (0 : Int) ∧ (0 : Int) ≤ ((IntKind.wrap .i64 (p1 - 1)) : Int) ∧ ((IntKind.wrap .i64 (p1 - 1)) : Int) ≤ (r1.2.1.length : Int)) (
 loop (L_segment_Section_2 r1 p1) (124, 0))) fun j1 =>
 gd ((0 : Int) ≤ (IntKind.wrap .i64 (p1 - 1)) ∧ (IntKind.wrap .i64 (p1 - 1)) < (r1.2.1.length : Int)) (
 gd ((0 : Int) ≤ (j1 : Int) ∧ (j1 : Int) ≤ ((IntKind.wrap .i64 (j1 + ((r1.2.1.getD (Int.toNat (IntKind.wrap .i64 (p1 - 1))) default).x_length))) : Int) ∧ ((IntKind.wrap .i64 (j1 + ((r1.2.1.getD (Int.toNat (IntKind.wrap .i64 (p1 - 1))) default).x_length))) : Int) ≤ (p0.length : Int)) (
 bd (sub p0 j1 (IntKind.wrap .i64 (j1 + ((r1.2.1.getD (Int.toNat (IntKind.wrap .i64 (p1 - 1))) default).x_length)))) fun x7 =>
 bnd (F_segment_Crc x7) fun r8 =>
 cond (r8 != ((r1.2.1.getD (Int.toNat (IntKind.wrap .i64 (p1 - 1))) default).x_crc)) (
 some (([] : List Int), 15)) (
 bnd (F_slices_Clone_byte_byte x7) fun r9 =>
 some (r9, 0))))))
noncomputable def z_segment_Section (p0 : List Int) (p1 : Int) : Cert Tryz.prog 64 (List Int × Int) :=
 .r 2 2 100 [0, 1] [] <|
 .rp 5 6 100 [0, 1, 18] [] (some ((((!(decide (p1 < 1))) = true → (!(decide (p1 < 1))) = true) ∧ ((decide (p1 < 1)) = false → (!(decide (p1 < 1))) = true)))) (ob1 (⟨fun h => h, (fun h => by rw [h]; rfl)⟩)) <|
 .cond 2 (
 .r 2 2 100 [4, 5] [] <|
 .s (.own 4 100 5 1 (gT (fInt .u8) [])) <|
 .s (.rn 100 900) <|
 .lf 3 [4, 5] [900] (([] : List Int), 2)
 ) (
 .r 4 1 101 [0, 1, 20] [] <|
 .bind (F_segment_parse p0) fun r1 hr1 =>
 .s (.call [] [(901, 101)] (c_segment_parse hr1)) <|
 .r 0 8 102 [0, 1, 7, 8] [101] <|
 .r 5 2 103 [0, 1, 7, 8, 26] [101] <|
 .cond 2 (
 .r 2 3 103 [4, 5] [] <|
 .s (.own 4 103 5 1 (gT (fInt .u8) [])) <|
 .s (.rn 103 900) <|
 .lf 3 [4, 5] [900] (([] : List Int), r1.2.2)
 ) (
 .r 4 1 104 [0, 1, 7, 9] [101] <|
 .sq 2 (fun j1 : (Int) => ⟨[(0, .c (.d (.ro 1 p0.length (gT (fInt .u8) p0)))), (1, xi p1), (7, .c (.d (.ro 2 r1.2.1.length (gT fS_segment_entry r1.2.1)))), (9, xi j1)], []⟩) (
 .r 2 3 104 [0, 1, 7, 9, 28, 30] [101] <|
 .s (.fz 101) <|
 .gd ((0 : Int) ≤ (0 : Int) ∧ (0 : Int) ≤ ((IntKind.wrap .i64 (p1 - 1)) : Int) ∧ ((IntKind.wrap .i64 (p1 - 1)) : Int) ≤ (r1.2.1.length : Int)) fun g2 =>
 .rp 0 1 104 [0, 1, 7, 9, 31] [] (some (((0 : Int) ≤ (0 : Int) ∧ (0 : Int) ≤ ((IntKind.wrap .i64 (p1 - 1)) : Int) ∧ ((IntKind.wrap .i64 (p1 - 1)) : Int) ≤ (r1.2.1.length : Int)))) (ob1 g2) <|
 .s (.imp 31 (.c (.d (.ro 2 (sub r1.2.1 0 (IntKind.wrap .i64 (p1 - 1))).length (gT fS_segment_entry (sub r1.2.1 0 (IntKind.wrap .i64 (p1 - 1))))))) (AImp.c (CImp.sub g2))) <|
 .r 0 2 104 [0, 1, 7, 9, 31, 32, 33] [] <|
 .s (.cn [0, 1, 7, 9, 31, 32, 33] []) <|
 .lp 3 (fun j2 : (Int × Int) => let u1 := (sub r1.2.1 0 (IntKind.wrap .i64 (p1 - 1))); ⟨[(0, .c (.d (.ro 1 p0.length (gT (fInt .u8) p0)))), (1, xi p1), (7, .c (.d (.ro 2 r1.2.1.length (gT fS_segment_entry r1.2.1)))), (9, xi j2.1), (31, .c (.d (.ro 2 u1.length (gT fS_segment_entry u1)))), (32, xi (u1.length : Int)), (33, xi j2.2)], []⟩) (124, 0) fun j2 =>
 .r 2 1 104 [0, 1, 7, 9, 31, 32, 33, 34] [] <|
 .cond 3 (
 .gd ((0 : Int) ≤ j2.2 ∧ j2.2 < ((sub r1.2.1 0 (IntKind.wrap .i64 (p1 - 1))).length : Int)) fun g3 =>
 .rp 6 4 104 [0, 1, 7, 9, 11, 31, 32, 33] [104] (some (((0 : Int) ≤ j2.2 ∧ j2.2 < ((sub r1.2.1 0 (IntKind.wrap .i64 (p1 - 1))).length : Int)))) (ob1 g3) <|
 .r 3 5 105 [0, 1, 7, 9, 31, 32, 33] [] <|
 .bs ((IntKind.wrap .i64 (j2.1 + (((sub r1.2.1 0 (IntKind.wrap .i64 (p1 - 1))).getD (Int.toNat j2.2) default).x_length)))) [9] xi fun x4 =>
 .r 4 2 105 [0, 1, 7, 9, 31, 32, 33] [] <|
 .lf 1 [0, 1, 7, 9, 31, 32, 33] [] (.inl (x4, (IntKind.wrap .i64 (j2.2 + 1))))
 ) (
 .lf 1 [0, 1, 7, 9] [] (.inr (.inl j2.1))
 )
 ) fun j1 =>
 .gd ((0 : Int) ≤ (IntKind.wrap .i64 (p1 - 1)) ∧ (IntKind.wrap .i64 (p1 - 1)) < (r1.2.1.length : Int)) fun g5 =>
 .gd ((0 : Int) ≤ (j1 : Int) ∧ (j1 : Int) ≤ ((IntKind.wrap .i64 (j1 + ((r1.2.1.getD (Int.toNat (IntKind.wrap .i64 (p1 - 1))) default).x_length))) : Int) ∧ ((IntKind.wrap .i64 (j1 + ((r1.2.1.getD (Int.toNat (IntKind.wrap .i64 (p1 - 1))) default).x_length))) : Int) ≤ (p0.length : Int)) fun g6 =>
 .rp 2 11 105 [1, 7, 52] [] (let u2 := (IntKind.wrap .i64 (p1 - 1)); let u1 := ((IntKind.wrap .i64 (j1 + ((r1.2.1.getD (Int.toNat u2) default).x_length))) : Int); some ((((0 : Int) ≤ u2 ∧ u2 < (r1.2.1.length : Int)) ∧ ((0 : Int) ≤ (j1 : Int) ∧ (j1 : Int) ≤ u1 ∧ u1 ≤ (p0.length : Int))))) (ob1 (⟨g5, g6⟩)) <|
 .s (.imp 52 (.c (.d (.ro 1 (sub p0 j1 (IntKind.wrap .i64 (j1 + ((r1.2.1.getD (Int.toNat (IntKind.wrap .i64 (p1 - 1))) default).x_length)))).length (gT (fInt .u8) (sub p0 j1 (IntKind.wrap .i64 (j1 + ((r1.2.1.getD (Int.toNat (IntKind.wrap .i64 (p1 - 1))) default).x_length)))))))) (AImp.c (CImp.sub g6))) <|
 .r 0 1 105 [1, 7, 12] [] <|
 .bs ((sub p0 j1 (IntKind.wrap .i64 (j1 + ((r1.2.1.getD (Int.toNat (IntKind.wrap .i64 (p1 - 1))) default).x_length))))) [12] (fun x7 => .c (.d (.ro 1 x7.length (gT (fInt .u8) x7)))) fun x7 =>
 .s (.cn [1, 7, 12] []) <|
 .bind (F_segment_Crc x7) fun r8 hr8 =>
 .m 4 <|
 .s (.dr [.call 1 [] [] (c_segment_Crc hr8)] ([(5, some (((0 : Int) ≤ (IntKind.wrap .i64 (p1 - 1)) ∧ (IntKind.wrap .i64 (p1 - 1)) < (r1.2.1.length : Int))))]) (obsAll.cons (ob1 g5) obsAll.nil) [12, 61] []) <|
 .cond 2 (
 .r 2 2 105 [4, 5] [] <|
 .s (.own 4 105 5 1 (gT (fInt .u8) [])) <|
 .s (.rn 105 900) <|
 .lf 3 [4, 5] [900] (([] : List Int), 15)
 ) (
 .r 4 1 106 [62] [] <|
 .bind (F_slices_Clone_byte_byte x7) fun r9 hr9 =>
 .s (.call [] [(900, 106)] (c_slices_Clone_byte_byte hr9)) <|
 .r 0 2 107 [4, 5] [106] <|
 .s (.rn 106 900) <|
 .lf 3 [4, 5] [900] (r9, 0)
 )
 )
 )
/-- logtide/segment.Section -/
theorem c_segment_Section {p0 : List Int} {p1 : Int} {r : List Int × Int} (h : F_segment_Section p0 p1 = some r) : Spec Tryz.prog 85 [.c (.d (.ro 1 p0.length (gT (fInt .u8) p0))), xi p1] [] (.tup [.c (.nm 900), xi r.2]) [(900, .rows 5 1 r.1.length (gT (fInt .u8) r.1))] :=
  Cert.spec [900] (fun r : List Int × Int => .tup [.c (.nm 900), xi r.2]) (fun r => [(900, .rows 5 1 r.1.length (gT (fInt .u8) r.1))]) (z_segment_Section p0 p1) Tryz.func85 rfl (by kernel_rfl) h
noncomputable def L_segment_Damaged_2 (p0 : List Int) (j2 : Int × List Int) : Option ((Int × List Int) ⊕ ((List Int) ⊕ (List Int × Int))) :=
 cond (decide (j2.1 ≤ 12)) (
 bindE (σ := (List Int)) (
 bnd (F_segment_Section p0 j2.1) fun r2 =>
 cond (r2.2 != 0) (
 gd ((j2.2.length + ([j2.1] : List Int).length) * 8 ≤ 140737488355328) (
 some (.inl (j2.2 ++ ([j2.1] : List Int))))) (
 some (.inl j2.2))) fun j3 =>
 some (.inl ((IntKind.wrap .i64 (j2.1 + 1)), j3))) (
 some (.inr (.inl j2.2)))
noncomputable def F_segment_Damaged (p0 : List Int) : Option (List Int × Int) :=
 bnd (F_segment_Summary p0) fun r1 =>
 cond (r1.2 != 0) (
 some (([] : List Int), r1.2)) (
 bindE (σ := (List Int)) (
 loop (L_segment_Damaged_2 p0) (1, ([] : List Int))) fun j1 =>
 some (j1, 0))
noncomputable def z_segment_Damaged (p0 : List Int) : Cert Tryz.prog 35 (List Int × Int) :=
 .r 2 2 100 [0] [] <|
 .r 5 1 100 [0, 11] [] <|
 .bind (F_segment_Summary p0) fun r1 hr1 =>
 .s (.call [] [] (c_segment_Summary hr1)) <|
 .r 0 6 100 [0, 5] [] <|
 .r 4 2 101 [0, 5, 16] [] <|
 .cond 2 (
 .r 2 3 101 [2, 3] [] <|
 .s (.own 2 101 3 1 (gT (fInt .i64) [])) <|
 .s (.rn 101 900) <|
 .lf 3 [2, 3] [900] (([] : List Int), r1.2)
 ) (
 .r 4 1 102 [0, 6] [] <|
 .sq 2 (fun j1 : (List Int) => ⟨[(6, .c (.nm 102))], [(102, .rows 3 1 j1.length (gT (fInt .i64) j1))]⟩) (
 .r 2 1 102 [0, 6, 7] [] <|
 .s (.own 6 102 3 1 (gT (fInt .i64) [])) <|
 .s (.cn [0, 6, 7] [102]) <|
 .lp 3 (fun j2 : (Int × List Int) => ⟨[(0, .c (.d (.ro 1 p0.length (gT (fInt .u8) p0)))), (6, .c (.nm 102)), (7, xi j2.1)], [(102, .rows 3 1 j2.2.length (gT (fInt .i64) j2.2))]⟩) (1, ([] : List Int)) fun j2 =>
 .r 3 2 103 [0, 6, 7, 19] [102] <|
 .cond 2 (
 .sq 2 (fun j3 : (List Int) => ⟨[(0, .c (.d (.ro 1 p0.length (gT (fInt .u8) p0)))), (6, .c (.nm 104)), (7, xi j2.1)], [(104, .rows 3 1 j3.length (gT (fInt .i64) j3))]⟩) (
 .r 3 2 103 [0, 6, 7, 23, 24] [102] <|
 .bind (F_segment_Section p0 j2.1) fun r2 hr2 =>
 .s (.call [] [(900, 103)] (c_segment_Section hr2)) <|
 .r 0 5 104 [0, 6, 7, 9] [102] <|
 .r 4 2 104 [0, 6, 7, 29] [102] <|
 .cond 2 (
 .r 1 3 104 [0, 7, 30, 32] [102] <|
 .gd ((j2.2.length + ([j2.1] : List Int).length) * 8 ≤ 140737488355328) fun g3 =>
 .s (.appL (fInt .i64) (j2.2) (([j2.1] : List Int)) (gT (fInt .i64) j2.2) (.inr rfl) 3 1 8 104 g3) <|
 .r 0 1 105 [0, 6, 7] [104] <|
 .lf 1 [0, 6, 7] [104] (.inl (j2.2 ++ ([j2.1] : List Int)))
 ) (
 .s (.cn [0, 6, 7] [102]) <|
 .s (.rn 102 104) <|
 .lf 1 [0, 6, 7] [104] (.inl j2.2)
 )
 ) fun j3 =>
 .r 1 3 105 [0, 6, 7] [104] <|
 .s (.cn [0, 6, 7] [104]) <|
 .s (.rn 104 102) <|
 .lf 1 [0, 6, 7] [102] (.inl ((IntKind.wrap .i64 (j2.1 + 1)), j3))
 ) (
 .lf 1 [6] [102] (.inr (.inl j2.2))
 )
 ) fun j1 =>
 .r 2 3 105 [2, 3] [102] <|
 .s (.rn 102 900) <|
 .lf 3 [2, 3] [900] (j1, 0)
 )
/-- logtide/segment.Damaged -/
theorem c_segment_Damaged {p0 : List Int} {r : List Int × Int} (h : F_segment_Damaged p0 = some r) : Spec Tryz.prog 59 [.c (.d (.ro 1 p0.length (gT (fInt .u8) p0)))] [] (.tup [.c (.nm 900), xi r.2]) [(900, .rows 3 1 r.1.length (gT (fInt .i64) r.1))] :=
  Cert.spec [900] (fun r : List Int × Int => .tup [.c (.nm 900), xi r.2]) (fun r => [(900, .rows 3 1 r.1.length (gT (fInt .i64) r.1))]) (z_segment_Damaged p0) Tryz.func59 rfl (by kernel_rfl) h
noncomputable def F_tiers_whole (p0 : List S_Blob) (p1 : Int) (p2 : Int) : Option (List Int × Bool) :=
 bnd (F_tiers_Get p0 p1 p2) fun r1 =>
 bnd (F_segment_Damaged r1.1) fun r2 =>
 some (r1.1, (cond (cond r1.2 (r2.2 == 0) false) ((r2.1.length : Int) == 0) false))
noncomputable def z_tiers_whole (p0 : List S_Blob) (p1 : Int) (p2 : Int) : Cert Tryz.prog 35 (List Int × Bool) :=
 .r 2 2 100 [0, 1, 2] [] <|
 .r 4 3 100 [13, 14, 15] [] <|
 .bind (F_tiers_Get p0 p1 p2) fun r1 hr1 =>
 .s (.call [] [(900, 100)] (c_tiers_Get hr1)) <|
 .r 0 5 101 [8, 9] [100] <|
 .r 4 1 101 [8, 9, 20] [100] <|
 .bind (F_segment_Damaged r1.1) fun r2 hr2 =>
 .s (.call [(60, 100)] [(900, 101)] (Spec.lend 60 5 1 r1.1.length (gT (fInt .u8) r1.1) _ (c_segment_Damaged hr2) (args := [.c (.nm 60)]) rfl rfl rfl (by repeat (first | trivial | refine ⟨fun _ _ => ⟨_, rfl⟩, ?_⟩)))) <|
 .r 0 5 102 [8, 9, 10, 11] [100, 101] <|
 .rp 4 13 102 [6, 7] [100] (let u1 := ((cond r1.2 (r2.2 == 0) false) = true → (cond r1.2 (r2.2 == 0) false) = true); some (((r1.2 = true → r1.2 = true) ∧ ((r1.2 = true → r1.2 = true) ∧ (u1 ∧ (u1 ∧ u1)))))) (ob1 (⟨fun h => h, ⟨(fun h => h), ⟨fun h => h, ⟨fun h => h, (fun h => h)⟩⟩⟩⟩)) <|
 .s (.rn 100 900) <|
 .lf 3 [6, 7] [900] (r1.1, (cond (cond r1.2 (r2.2 == 0) false) ((r2.1.length : Int) == 0) false))
/-- logtide/tiers.whole -/
theorem c_tiers_whole {p0 : List S_Blob} {p1 : Int} {p2 : Int} {r : List Int × Bool} (h : F_tiers_whole p0 p1 p2 = some r) : Spec Tryz.prog 37 [.c (.d (.ro 3 p0.length (gT fS_Blob p0))), xi p1, xi p2] [] (.tup [.c (.nm 900), xb r.2]) [(900, .rows 5 1 r.1.length (gT (fInt .u8) r.1))] :=
  Cert.spec [900] (fun r : List Int × Bool => .tup [.c (.nm 900), xb r.2]) (fun r => [(900, .rows 5 1 r.1.length (gT (fInt .u8) r.1))]) (z_tiers_whole p0 p1 p2) Tryz.func37 rfl (by kernel_rfl) h
noncomputable def L_slices_Reverse_api_Blob_api_Blob_1 (j1 : Int × Int × List S_Blob) : Option ((Int × Int × List S_Blob) ⊕ (List S_Blob)) :=
 cond (decide (j1.1 < j1.2.1)) (
 gd ((0 : Int) ≤ j1.2.1 ∧ j1.2.1 < (j1.2.2.length : Int)) (
 gd ((0 : Int) ≤ j1.1 ∧ j1.1 < (j1.2.2.length : Int)) (
 gd ((0 : Int) ≤ j1.2.1 ∧ j1.2.1 < ((j1.2.2.set (Int.toNat j1.1) (j1.2.2.getD (Int.toNat j1.2.1) default)).length : Int)) (
 bd ((j1.2.2.set (Int.toNat j1.1) (j1.2.2.getD (Int.toNat j1.2.1) default)).set (Int.toNat j1.2.1) (j1.2.2.getD (Int.toNat j1.1) default)) fun x4 =>
 some (.inl ((IntKind.wrap .i64 (j1.1 + 1)), (IntKind.wrap .i64 (j1.2.1 - 1)), x4)))))) (
 some (.inr (j1.2.2)))
noncomputable def F_slices_Reverse_api_Blob_api_Blob (p0 : List S_Blob) : Option (List S_Blob) :=
 loop L_slices_Reverse_api_Blob_api_Blob_1 (0, (IntKind.wrap .i64 ((p0.length : Int) - 1)), p0)
noncomputable def z_slices_Reverse_api_Blob_api_Blob (p0 : List S_Blob) : Cert Tryz.prog 28 (List S_Blob) :=
 .r 2 5 100 [0, 2, 3] [1] <|
 .s (.cn [0, 2, 3] [1]) <|
 .lp 3 (fun j1 : (Int × Int × List S_Blob) => ⟨[(0, .c (.nm 1)), (2, xi j1.1), (3, xi j1.2.1)], [(1, .rows 59 3 j1.2.2.length (gT fS_Blob j1.2.2))]⟩) (0, (IntKind.wrap .i64 ((p0.length : Int) - 1)), p0) fun j1 =>
 .r 3 3 100 [0, 2, 3, 9] [1] <|
 .cond 2 (
 .s (.cn [0, 2, 3] [1]) <|
 .gd ((0 : Int) ≤ j1.2.1 ∧ j1.2.1 < (j1.2.2.length : Int)) fun g1 =>
 .gd ((0 : Int) ≤ j1.1 ∧ j1.1 < (j1.2.2.length : Int)) fun g2 =>
 .gd ((0 : Int) ≤ j1.2.1 ∧ j1.2.1 < ((j1.2.2.set (Int.toNat j1.1) (j1.2.2.getD (Int.toNat j1.2.1) default)).length : Int)) fun g3 =>
 .m 4 <|
 .s (.dr [.stR fS_Blob j1.2.2 13 1 59 3 (Int.toNat j1.1) 0 (j1.2.2.getD (Int.toNat j1.2.1) default) (tn g2), .stR fS_Blob (j1.2.2.set (Int.toNat j1.1) (j1.2.2.getD (Int.toNat j1.2.1) default)) 15 1 59 3 (Int.toNat j1.2.1) 0 (j1.2.2.getD (Int.toNat j1.1) default) (tn g3)] (let u1 := (((0 : Int) ≤ j1.1 ∧ j1.1 < (j1.2.2.length : Int))); [(6, some (((0 : Int) ≤ j1.2.1 ∧ j1.2.1 < (j1.2.2.length : Int)))), (7, some (((Int.toNat j1.2.1) < j1.2.2.length))), (10, some u1), (11, some (((Int.toNat j1.1) < j1.2.2.length))), (12, some u1), (14, some (((0 : Int) ≤ j1.2.1 ∧ j1.2.1 < ((j1.2.2.set (Int.toNat j1.1) (j1.2.2.getD (Int.toNat j1.2.1) default)).length : Int))))]) (obsAll.cons (ob1 g1) (obsAll.cons (ob1 (tn g1)) (obsAll.cons (ob1 g2) (obsAll.cons (ob1 (tn g2)) (obsAll.cons (ob1 g2) (obsAll.cons (ob1 g3) obsAll.nil)))))) [0, 2, 3] [1]) <|
 .bh (((j1.2.2.set (Int.toNat j1.1) (j1.2.2.getD (Int.toNat j1.2.1) default)).set (Int.toNat j1.2.1) (j1.2.2.getD (Int.toNat j1.1) default))) 1 (fun x4 => .rows 59 3 x4.length (gT fS_Blob x4)) fun x4 =>
 .r 4 6 100 [0, 2, 3] [1] <|
 .lf 1 [0, 2, 3] [1] (.inl ((IntKind.wrap .i64 (j1.1 + 1)), (IntKind.wrap .i64 (j1.2.1 - 1)), x4))
 ) (
 .lf 1 [] [1] (.inr (j1.2.2))
 )
/-- slices.Reverse[[]logtide/api.Blob,logtide/api.Blob] -/
theorem c_slices_Reverse_api_Blob_api_Blob {p0 : List S_Blob} {r : List S_Blob} (h : F_slices_Reverse_api_Blob_api_Blob p0 = some r) : Spec Tryz.prog 126 [.c (.nm 1)] [(1, .rows 59 3 p0.length (gT fS_Blob p0))] (.tup []) [(1, .rows 59 3 r.length (gT fS_Blob r))] :=
  Cert.spec [1] (fun r : List S_Blob => .tup []) (fun r => [(1, .rows 59 3 r.length (gT fS_Blob r))]) (z_slices_Reverse_api_Blob_api_Blob p0) Tryz.func126 rfl (by kernel_rfl) h
noncomputable def F_r27_right (p0 : List Int) (p1 : Int) : Option (Bool) :=
 bnd (F_r27_place p0 p1) fun r1 =>
 gd ((0 : Int) ≤ ((IntKind.wrap .i64 (20 + (IntKind.wrap .i64 (8 * p1)))) : Int) ∧ ((IntKind.wrap .i64 (20 + (IntKind.wrap .i64 (8 * p1)))) : Int) ≤ ((IntKind.wrap .i64 (24 + (IntKind.wrap .i64 (8 * p1)))) : Int) ∧ ((IntKind.wrap .i64 (24 + (IntKind.wrap .i64 (8 * p1)))) : Int) ≤ (p0.length : Int)) (
 bnd (F_r27_Get (sub p0 (IntKind.wrap .i64 (20 + (IntKind.wrap .i64 (8 * p1)))) (IntKind.wrap .i64 (24 + (IntKind.wrap .i64 (8 * p1)))))) fun r3 =>
 gd ((0 : Int) ≤ (r1.1 : Int) ∧ (r1.1 : Int) ≤ ((IntKind.wrap .i64 (r1.1 + r1.2)) : Int) ∧ ((IntKind.wrap .i64 (r1.1 + r1.2)) : Int) ≤ (p0.length : Int)) (
 bnd (F_r27_Crc (sub p0 r1.1 (IntKind.wrap .i64 (r1.1 + r1.2)))) fun r5 =>
 some (r3 == (IntKind.wrap .u64 (r5)))))
noncomputable def z_r27_right (p0 : List Int) (p1 : Int) : Cert Tryz.prog 31 (Bool) :=
 .r 2 1 100 [0, 1] [] <|
 .r 4 2 100 [0, 1, 8, 9] [] <|
 .bind (F_r27_place p0 p1) fun r1 hr1 =>
 .s (.call [] [] (c_r27_place hr1)) <|
 .r 0 5 100 [0, 1, 5, 6] [] <|
 .s (.cn [0, 1, 5, 6] []) <|
 .gd ((0 : Int) ≤ ((IntKind.wrap .i64 (20 + (IntKind.wrap .i64 (8 * p1)))) : Int) ∧ ((IntKind.wrap .i64 (20 + (IntKind.wrap .i64 (8 * p1)))) : Int) ≤ ((IntKind.wrap .i64 (24 + (IntKind.wrap .i64 (8 * p1)))) : Int) ∧ ((IntKind.wrap .i64 (24 + (IntKind.wrap .i64 (8 * p1)))) : Int) ≤ (p0.length : Int)) fun g2 =>
 .bind (F_r27_Get (sub p0 (IntKind.wrap .i64 (20 + (IntKind.wrap .i64 (8 * p1)))) (IntKind.wrap .i64 (24 + (IntKind.wrap .i64 (8 * p1)))))) fun r3 hr3 =>
 .gd ((0 : Int) ≤ (r1.1 : Int) ∧ (r1.1 : Int) ≤ ((IntKind.wrap .i64 (r1.1 + r1.2)) : Int) ∧ ((IntKind.wrap .i64 (r1.1 + r1.2)) : Int) ≤ (p0.length : Int)) fun g4 =>
 .bind (F_r27_Crc (sub p0 r1.1 (IntKind.wrap .i64 (r1.1 + r1.2)))) fun r5 hr5 =>
 .m 3 <|
 .s (.dr [.call 8 [] [] ((c_r27_Get hr3).args (AsImp.cons (AImp.c (CImp.sub g2)) AsImp.nil)), .call 15 [] [] ((c_r27_Crc hr5).args (AsImp.cons (AImp.c (CImp.sub g4)) AsImp.nil))] (let u1 := (IntKind.wrap .i64 (8 * p1)); let u2 := ((IntKind.wrap .i64 (r1.1 + r1.2)) : Int); let u3 := ((IntKind.wrap .i64 (20 + u1)) : Int); let u4 := ((IntKind.wrap .i64 (24 + u1)) : Int); [(7, some (((0 : Int) ≤ u3 ∧ u3 ≤ u4 ∧ u4 ≤ (p0.length : Int)))), (14, some (((0 : Int) ≤ (r1.1 : Int) ∧ (r1.1 : Int) ≤ u2 ∧ u2 ≤ (p0.length : Int))))]) (obsAll.cons (ob1 g2) (obsAll.cons (ob1 g4) obsAll.nil)) [4] []) <|
 .lf 3 [4] [] (r3 == (IntKind.wrap .u64 (r5)))
/-- logtide/logtideref27.right -/
theorem c_r27_right {p0 : List Int} {p1 : Int} {r : Bool} (h : F_r27_right p0 p1 = some r) : Spec Tryz.prog 88 [.c (.d (.ro 1 p0.length (gT (fInt .u8) p0))), xi p1] [] (xb r) [] :=
  Cert.spec [] (fun r : Bool => xb r) (fun r => []) (z_r27_right p0 p1) Tryz.func88 rfl (by kernel_rfl) h
noncomputable def L_r27_Damaged_2 (p0 : List Int) (j2 : Int × List Int) : Option ((Int × List Int) ⊕ ((List Int) ⊕ (List Int × Int))) :=
 cond (decide (j2.1 ≤ 12)) (
 bindE (σ := (List Int)) (
 bnd (F_r27_right p0 j2.1) fun r2 =>
 cond (!r2) (
 gd ((j2.2.length + ([j2.1] : List Int).length) * 8 ≤ 140737488355328) (
 some (.inl (j2.2 ++ ([j2.1] : List Int))))) (
 some (.inl j2.2))) fun j3 =>
 some (.inl ((IntKind.wrap .i64 (j2.1 + 1)), j3))) (
 some (.inr (.inl j2.2)))
noncomputable def F_r27_Damaged (p0 : List Int) : Option (List Int × Int) :=
 bnd (F_r27_Summary p0) fun r1 =>
 cond (r1.2 != 0) (
 some (([] : List Int), r1.2)) (
 bindE (σ := (List Int)) (
 loop (L_r27_Damaged_2 p0) (1, ([] : List Int))) fun j1 =>
 some (j1, 0))
noncomputable def z_r27_Damaged (p0 : List Int) : Cert Tryz.prog 29 (List Int × Int) :=
 .r 2 2 100 [0] [] <|
 .r 5 1 100 [0, 9] [] <|
 .bind (F_r27_Summary p0) fun r1 hr1 =>
 .s (.call [] [] (c_r27_Summary hr1)) <|
 .r 0 6 100 [0, 5] [] <|
 .r 4 2 101 [0, 5, 14] [] <|
 .cond 2 (
 .r 2 3 101 [2, 3] [] <|
 .s (.own 2 101 3 1 (gT (fInt .i64) [])) <|
 .s (.rn 101 900) <|
 .lf 3 [2, 3] [900] (([] : List Int), r1.2)
 ) (
 .r 4 1 102 [0, 6] [] <|
 .sq 2 (fun j1 : (List Int) => ⟨[(6, .c (.nm 102))], [(102, .rows 3 1 j1.length (gT (fInt .i64) j1))]⟩) (
 .r 2 1 102 [0, 6, 7] [] <|
 .s (.own 6 102 3 1 (gT (fInt .i64) [])) <|
 .s (.cn [0, 6, 7] [102]) <|
 .lp 3 (fun j2 : (Int × List Int) => ⟨[(0, .c (.d (.ro 1 p0.length (gT (fInt .u8) p0)))), (6, .c (.nm 102)), (7, xi j2.1)], [(102, .rows 3 1 j2.2.length (gT (fInt .i64) j2.2))]⟩) (1, ([] : List Int)) fun j2 =>
 .r 3 2 103 [0, 6, 7, 17] [102] <|
 .cond 2 (
 .sq 2 (fun j3 : (List Int) => ⟨[(0, .c (.d (.ro 1 p0.length (gT (fInt .u8) p0)))), (6, .c (.nm 103)), (7, xi j2.1)], [(103, .rows 3 1 j3.length (gT (fInt .i64) j3))]⟩) (
 .r 3 2 103 [0, 6, 7, 20, 21] [102] <|
 .bind (F_r27_right p0 j2.1) fun r2 hr2 =>
 .s (.call [] [] (c_r27_right hr2)) <|
 .r 0 1 103 [0, 6, 7, 23] [102] <|
 .cond 2 (
 .r 1 3 103 [0, 7, 24, 26] [102] <|
 .gd ((j2.2.length + ([j2.1] : List Int).length) * 8 ≤ 140737488355328) fun g3 =>
 .s (.appL (fInt .i64) (j2.2) (([j2.1] : List Int)) (gT (fInt .i64) j2.2) (.inr rfl) 3 1 8 103 g3) <|
 .r 0 1 104 [0, 6, 7] [103] <|
 .lf 1 [0, 6, 7] [103] (.inl (j2.2 ++ ([j2.1] : List Int)))
 ) (
 .s (.cn [0, 6, 7] [102]) <|
 .s (.rn 102 103) <|
 .lf 1 [0, 6, 7] [103] (.inl j2.2)
 )
 ) fun j3 =>
 .r 1 3 104 [0, 6, 7] [103] <|
 .s (.cn [0, 6, 7] [103]) <|
 .s (.rn 103 102) <|
 .lf 1 [0, 6, 7] [102] (.inl ((IntKind.wrap .i64 (j2.1 + 1)), j3))
 ) (
 .lf 1 [6] [102] (.inr (.inl j2.2))
 )
 ) fun j1 =>
 .r 2 3 104 [2, 3] [102] <|
 .s (.rn 102 900) <|
 .lf 3 [2, 3] [900] (j1, 0)
 )
/-- logtide/logtideref27.Damaged -/
theorem c_r27_Damaged {p0 : List Int} {r : List Int × Int} (h : F_r27_Damaged p0 = some r) : Spec Tryz.prog 61 [.c (.d (.ro 1 p0.length (gT (fInt .u8) p0)))] [] (.tup [.c (.nm 900), xi r.2]) [(900, .rows 3 1 r.1.length (gT (fInt .i64) r.1))] :=
  Cert.spec [900] (fun r : List Int × Int => .tup [.c (.nm 900), xi r.2]) (fun r => [(900, .rows 3 1 r.1.length (gT (fInt .i64) r.1))]) (z_r27_Damaged p0) Tryz.func61 rfl (by kernel_rfl) h
noncomputable def F_r33_whole (p0 : List S_Blob) (p1 : Int) (p2 : Int) : Option (List Int × Bool) :=
 bnd (F_r33_Get p0 p1 p2) fun r1 =>
 bnd (F_r27_Damaged r1.1) fun r2 =>
 some (r1.1, (cond (cond r1.2 (r2.2 == 0) false) ((r2.1.length : Int) == 0) false))
noncomputable def z_r33_whole (p0 : List S_Blob) (p1 : Int) (p2 : Int) : Cert Tryz.prog 35 (List Int × Bool) :=
 .r 2 2 100 [0, 1, 2] [] <|
 .r 4 3 100 [13, 14, 15] [] <|
 .bind (F_r33_Get p0 p1 p2) fun r1 hr1 =>
 .s (.call [] [(900, 100)] (c_r33_Get hr1)) <|
 .r 0 5 101 [8, 9] [100] <|
 .r 4 1 101 [8, 9, 20] [100] <|
 .bind (F_r27_Damaged r1.1) fun r2 hr2 =>
 .s (.call [(60, 100)] [(900, 101)] (Spec.lend 60 5 1 r1.1.length (gT (fInt .u8) r1.1) _ (c_r27_Damaged hr2) (args := [.c (.nm 60)]) rfl rfl rfl (by repeat (first | trivial | refine ⟨fun _ _ => ⟨_, rfl⟩, ?_⟩)))) <|
 .r 0 5 102 [8, 9, 10, 11] [100, 101] <|
 .rp 4 13 102 [6, 7] [100] (let u1 := ((cond r1.2 (r2.2 == 0) false) = true → (cond r1.2 (r2.2 == 0) false) = true); some (((r1.2 = true → r1.2 = true) ∧ ((r1.2 = true → r1.2 = true) ∧ (u1 ∧ (u1 ∧ u1)))))) (ob1 (⟨fun h => h, ⟨(fun h => h), ⟨fun h => h, ⟨fun h => h, (fun h => h)⟩⟩⟩⟩)) <|
 .s (.rn 100 900) <|
 .lf 3 [6, 7] [900] (r1.1, (cond (cond r1.2 (r2.2 == 0) false) ((r2.1.length : Int) == 0) false))
/-- logtide/logtideref33.whole -/
theorem c_r33_whole {p0 : List S_Blob} {p1 : Int} {p2 : Int} {r : List Int × Bool} (h : F_r33_whole p0 p1 p2 = some r) : Spec Tryz.prog 39 [.c (.d (.ro 3 p0.length (gT fS_Blob p0))), xi p1, xi p2] [] (.tup [.c (.nm 900), xb r.2]) [(900, .rows 5 1 r.1.length (gT (fInt .u8) r.1))] :=
  Cert.spec [900] (fun r : List Int × Bool => .tup [.c (.nm 900), xb r.2]) (fun r => [(900, .rows 5 1 r.1.length (gT (fInt .u8) r.1))]) (z_r33_whole p0 p1 p2) Tryz.func39 rfl (by kernel_rfl) h
end Go.Abs
