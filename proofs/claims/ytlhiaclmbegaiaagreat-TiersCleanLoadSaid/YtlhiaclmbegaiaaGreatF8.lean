/- DERIVED. Printed by gen.py of this repo. -/
import Derived.Test.YtlhiaclmbegaiaaGreatF7
set_option linter.unusedVariables false
set_option linter.unusedSimpArgs false
set_option maxRecDepth 100000
namespace Go.Abs
open Go.Proofs
noncomputable def L_r30_index_2 (p0 : List S_SegmentInfo) (p1 : Int) (j2 : Int) : Option ((Int) ⊕ ((Unit) ⊕ (Int))) :=
 cond (decide (j2 < (p0.length : Int))) (
 gd ((0 : Int) ≤ j2 ∧ j2 < (p0.length : Int)) (
 cond (((p0.getD (Int.toNat j2) default).ID) == p1) (
 some (.inr (.inr (j2)))) (
 some (.inl (IntKind.wrap .i64 (j2 + 1)))))) (
 some (.inr (.inl ())))
noncomputable def F_r30_index (p0 : List S_SegmentInfo) (p1 : Int) : Option (Int) :=
 bindE (σ := (Unit)) (
 loop (L_r30_index_2 p0 p1) 0) fun j1 =>
 some (-1)
noncomputable def z_r30_index (p0 : List S_SegmentInfo) (p1 : Int) : Cert Tryz.prog 20 (Int) :=
 .r 2 1 100 [0, 1] [] <|
 .sq 2 (fun j1 : (Unit) => ⟨[], []⟩) (
 .r 2 1 100 [0, 1, 5] [] <|
 .s (.cn [0, 1, 5] []) <|
 .lp 3 (fun j2 : (Int) => ⟨[(0, .c (.d (.ro 7 p0.length (gT fS_SegmentInfo p0)))), (1, xi p1), (5, xi j2)], []⟩) 0 fun j2 =>
 .r 3 4 100 [0, 1, 5, 9] [] <|
 .cond 2 (
 .gd ((0 : Int) ≤ j2 ∧ j2 < (p0.length : Int)) fun g1 =>
 .rp 6 7 100 [0, 1, 5, 18] [] (some (((0 : Int) ≤ j2 ∧ j2 < (p0.length : Int)))) (ob1 g1) <|
 .cond 2 (
 .r 2 2 100 [4] [] <|
 .lf 3 [4] [] (.inr (.inr (j2)))
 ) (
 .r 4 3 100 [0, 1, 5] [] <|
 .lf 1 [0, 1, 5] [] (.inl (IntKind.wrap .i64 (j2 + 1)))
 )
 ) (
 .lf 1 [] [] (.inr (.inl ()))
 )
 ) fun j1 =>
 .r 2 1 100 [4] [] <|
 .lf 3 [4] [] (-1)
/-- logtide/logtideref30.index -/
theorem c_r30_index {p0 : List S_SegmentInfo} {p1 : Int} {r : Int} (h : F_r30_index p0 p1 = some r) : Spec Tryz.prog 55 [.c (.d (.ro 7 p0.length (gT fS_SegmentInfo p0))), xi p1] [] (xi r) [] :=
  Cert.spec [] (fun r : Int => xi r) (fun r => []) (z_r30_index p0 p1) Tryz.func55 rfl (by kernel_rfl) h
noncomputable def F_r30_Find (p0 : S_Manifest) (p1 : Int) : Option (S_SegmentInfo × Bool) :=
 bd (⟨(0 : Int), (0 : Int), (0 : Int), (0 : Int), (0 : Int), (0 : Int), (0 : Int)⟩ : S_SegmentInfo) fun x1 =>
 bnd (F_r30_index p0.Segments p1) fun r2 =>
 cond (decide (r2 ≥ 0)) (
 gd ((0 : Int) ≤ r2 ∧ r2 < (p0.Segments.length : Int)) (
 some ((p0.Segments.getD (Int.toNat r2) default), true))) (
 bd (⟨(0 : Int), (0 : Int), (0 : Int), (0 : Int), (0 : Int), (0 : Int), (0 : Int)⟩ : S_SegmentInfo) fun x4 =>
 some (x4, false))
noncomputable def z_r30_Find (p0 : S_Manifest) (p1 : Int) : Cert Tryz.prog 19 (S_SegmentInfo × Bool) :=
 .r 2 3 100 [1, 2, 4] [100, 101] <|
 .bh ((⟨(0 : Int), (0 : Int), (0 : Int), (0 : Int), (0 : Int), (0 : Int), (0 : Int)⟩ : S_SegmentInfo)) 101 (fun x1 => .box 54 (bS_SegmentInfo x1)) fun x1 =>
 .r 5 3 102 [2, 4, 8, 9] [100, 101] <|
 .bind (F_r30_index p0.Segments p1) fun r2 hr2 =>
 .s (.call [] [] (c_r30_index hr2)) <|
 .r 0 1 102 [2, 4, 6] [100, 101] <|
 .r 4 2 102 [2, 4, 6, 12] [100, 101] <|
 .cond 2 (
 .gd ((0 : Int) ≤ r2 ∧ r2 < (p0.Segments.length : Int)) fun g3 =>
 .rp 2 7 102 [4, 5] [101] (some (((0 : Int) ≤ r2 ∧ r2 < (p0.Segments.length : Int)))) (ob1 g3) <|
 .lf 3 [4, 5] [101] ((p0.Segments.getD (Int.toNat r2) default), true)
 ) (
 .r 4 3 102 [4, 5] [101] <|
 .bh ((⟨(0 : Int), (0 : Int), (0 : Int), (0 : Int), (0 : Int), (0 : Int), (0 : Int)⟩ : S_SegmentInfo)) 101 (fun x4 => .box 54 (bS_SegmentInfo x4)) fun x4 =>
 .lf 3 [4, 5] [101] (x4, false)
 )
/-- logtide/logtideref30.Find -/
theorem c_r30_Find {p0 : S_Manifest} {p1 : Int} {r : S_SegmentInfo × Bool} (h : F_r30_Find p0 p1 = some r) : Spec Tryz.prog 31 [.agg (bS_Manifest p0), xi p1] [] (.tup [.agg (bS_SegmentInfo r.1), xb r.2]) [] :=
  Cert.spec [] (fun r : S_SegmentInfo × Bool => .tup [.agg (bS_SegmentInfo r.1), xb r.2]) (fun r => []) (z_r30_Find p0 p1) Tryz.func31 rfl (by kernel_rfl) h
noncomputable def L_r33_Clean_2 (p0 : List S_Blob) (p1 : S_Manifest) (j2 : Int × List S_Blob) : Option ((Int × List S_Blob) ⊕ ((List S_Blob) ⊕ (List S_Blob))) :=
 cond (decide (j2.1 < (p0.length : Int))) (
 bindE (σ := (List S_Blob)) (
 gd ((0 : Int) ≤ j2.1 ∧ j2.1 < (p0.length : Int)) (
 bnd (F_r30_Find p1 ((p0.getD (Int.toNat j2.1) default).ID)) fun r2 =>
 gd (r2.2 = true → (0 : Int) ≤ j2.1 ∧ j2.1 < (p0.length : Int)) (
 cond (cond r2.2 (r2.1.Tier == ((p0.getD (Int.toNat j2.1) default).Tier)) false) (
 gd ((j2.2.length + 1) * 40 ≤ 140737488355328) (
 some (.inl (j2.2 ++ [(p0.getD (Int.toNat j2.1) default)])))) (
 some (.inl j2.2))))) fun j3 =>
 some (.inl ((IntKind.wrap .i64 (j2.1 + 1)), j3))) (
 some (.inr (.inl j2.2)))
noncomputable def F_r33_Clean (p0 : List S_Blob) (p1 : S_Manifest) : Option (List S_Blob) :=
 bindE (σ := (List S_Blob)) (
 loop (L_r33_Clean_2 p0 p1) (0, ([] : List S_Blob))) fun j1 =>
 some j1
noncomputable def z_r33_Clean (p0 : List S_Blob) (p1 : S_Manifest) : Cert Tryz.prog 44 (List S_Blob) :=
 .r 2 2 100 [0, 3] [100] <|
 .r 4 1 101 [0, 3, 5] [100] <|
 .sq 2 (fun j1 : (List S_Blob) => ⟨[(5, .c (.nm 101))], [(101, .rows 59 3 j1.length (gT fS_Blob j1))]⟩) (
 .r 2 1 101 [0, 3, 5, 6] [100] <|
 .s (.own 5 101 59 3 (gT fS_Blob [])) <|
 .s (.cn [0, 3, 5, 6] [100, 101]) <|
 .lp 3 (fun j2 : (Int × List S_Blob) => ⟨[(0, .c (.d (.ro 3 p0.length (gT fS_Blob p0)))), (3, .c (.np 100 7 0 0)), (5, .c (.nm 101)), (6, xi j2.1)], [(100, .box 31 (bS_Manifest p1)), (101, .rows 59 3 j2.2.length (gT fS_Blob j2.2))]⟩) (0, ([] : List S_Blob)) fun j2 =>
 .r 3 4 102 [0, 3, 5, 6, 12] [100, 101] <|
 .cond 2 (
 .sq 2 (fun j3 : (List S_Blob) => ⟨[(0, .c (.d (.ro 3 p0.length (gT fS_Blob p0)))), (3, .c (.np 100 7 0 0)), (5, .c (.nm 103)), (6, xi j2.1)], [(100, .box 31 (bS_Manifest p1)), (103, .rows 59 3 j3.length (gT fS_Blob j3))]⟩) (
 .s (.cn [0, 3, 5, 6] [100, 101]) <|
 .gd ((0 : Int) ≤ j2.1 ∧ j2.1 < (p0.length : Int)) fun g1 =>
 .bind (F_r30_Find p1 ((p0.getD (Int.toNat j2.1) default).ID)) fun r2 hr2 =>
 .m 2 <|
 .s (.dr [.call 6 [] [] (c_r30_Find hr2), .alloc 10 54 102 7 (bS_SegmentInfo (⟨(0 : Int), (0 : Int), (0 : Int), (0 : Int), (0 : Int), (0 : Int), (0 : Int)⟩ : S_SegmentInfo)), .stB 11 102 7 0 54 (bS_SegmentInfo (⟨(0 : Int), (0 : Int), (0 : Int), (0 : Int), (0 : Int), (0 : Int), (0 : Int)⟩ : S_SegmentInfo)) (bS_SegmentInfo r2.1)] ([(3, some (((0 : Int) ≤ j2.1 ∧ j2.1 < (p0.length : Int))))]) (obsAll.cons (ob1 g1) obsAll.nil) [0, 3, 5, 6, 7, 8] [100, 101, 102]) <|
 .s (.cn [0, 3, 5, 6, 7, 8] [100, 101, 102]) <|
 .gd (r2.2 = true → (0 : Int) ≤ j2.1 ∧ j2.1 < (p0.length : Int)) fun g3 =>
 .m 3 <|
 .s (.dr [] (let u1 := (r2.2 = true → r2.2 = true); [(3, some (u1)), (6, some (((u1 ∧ u1) ∧ (r2.2 = true → (0 : Int) ≤ j2.1 ∧ j2.1 < (p0.length : Int))))), (7, some (u1)), (8, some (u1)), (9, some ((u1 ∧ u1))), (10, some (u1))]) (obsAll.cons (ob1 (fun h => h)) (obsAll.cons (ob1 (⟨⟨fun h => h, fun h => h⟩, g3⟩)) (obsAll.cons (ob1 (fun h => h)) (obsAll.cons (ob1 (fun h => h)) (obsAll.cons (ob1 (⟨fun h => h, fun h => h⟩)) (obsAll.cons (ob1 (fun h => h)) obsAll.nil)))))) [0, 3, 5, 6, 35] [100, 101]) <|
 .cond 2 (
 .rp 1 6 103 [0, 3, 6, 36, 41] [100, 101] (some (((0 : Int) ≤ j2.1 ∧ j2.1 < (p0.length : Int)))) (ob1 g1) <|
 .gd ((j2.2.length + 1) * 40 ≤ 140737488355328) fun g4 =>
 .s (.app1 fS_Blob (j2.2) (p0.getD (Int.toNat j2.1) default) (gT fS_Blob j2.2) (.inr rfl) 59 3 40 103 g4) <|
 .r 0 1 104 [0, 3, 5, 6] [100, 103] <|
 .lf 1 [0, 3, 5, 6] [100, 103] (.inl (j2.2 ++ [(p0.getD (Int.toNat j2.1) default)]))
 ) (
 .s (.cn [0, 3, 5, 6] [100, 101]) <|
 .s (.rn 101 103) <|
 .lf 1 [0, 3, 5, 6] [100, 103] (.inl j2.2)
 )
 ) fun j3 =>
 .r 1 3 104 [0, 3, 5, 6] [100, 103] <|
 .s (.cn [0, 3, 5, 6] [100, 103]) <|
 .s (.rn 103 101) <|
 .lf 1 [0, 3, 5, 6] [100, 101] (.inl ((IntKind.wrap .i64 (j2.1 + 1)), j3))
 ) (
 .lf 1 [5] [101] (.inr (.inl j2.2))
 )
 ) fun j1 =>
 .r 2 2 104 [4] [101] <|
 .s (.rn 101 900) <|
 .lf 3 [4] [900] j1
/-- logtide/logtideref33.Clean -/
theorem c_r33_Clean {p0 : List S_Blob} {p1 : S_Manifest} {r : List S_Blob} (h : F_r33_Clean p0 p1 = some r) : Spec Tryz.prog 10 [.c (.d (.ro 3 p0.length (gT fS_Blob p0))), .agg (bS_Manifest p1)] [] (.c (.nm 900)) [(900, .rows 59 3 r.length (gT fS_Blob r))] :=
  Cert.spec [900] (fun r : List S_Blob => .c (.nm 900)) (fun r => [(900, .rows 59 3 r.length (gT fS_Blob r))]) (z_r33_Clean p0 p1) Tryz.func10 rfl (by kernel_rfl) h
noncomputable def F_segment_cursor_take (p0 : S_segment_cursor) (p1 : Int) : Option (List Int × S_segment_cursor) :=
 cond (cond (decide (p1 < 0)) true (decide (p1 > (p0.x_b.length : Int)))) (
 some (([] : List Int), { { { p0 with x_b := [] } with x_bad := true } with x_b := [] })) (
 gd ((0 : Int) ≤ (0 : Int) ∧ (0 : Int) ≤ (p1 : Int) ∧ (p1 : Int) ≤ (p0.x_b.length : Int)) (
 gd ((0 : Int) ≤ (p1 : Int) ∧ (p1 : Int) ≤ ((p0.x_b.length : Int) : Int) ∧ ((p0.x_b.length : Int) : Int) ≤ (p0.x_b.length : Int)) (
 some ((sub p0.x_b 0 p1), { p0 with x_b := (sub p0.x_b p1 (p0.x_b.length : Int)) }))))
noncomputable def z_segment_cursor_take (p0 : S_segment_cursor) (p1 : Int) : Cert Tryz.prog 39 (List Int × S_segment_cursor) :=
 .r 2 1 100 [0, 1] [1] <|
 .rp 5 11 100 [0, 1, 16] [1] (let u2 := (!(decide (p1 < 0))); let u1 := (u2 = true → u2 = true); some ((u1 ∧ (u1 ∧ (u1 ∧ (u1 ∧ ((u1 ∧ u1) ∧ ((decide (p1 < 0)) = false → u2 = true)))))))) (ob1 (⟨fun h => h, ⟨fun h => h, ⟨fun h => h, ⟨fun h => h, ⟨⟨fun h => h, fun h => h⟩, (fun h => by rw [h]; rfl)⟩⟩⟩⟩⟩)) <|
 .cond 2 (
 .r 2 8 100 [] [1] <|
 .r 4 1 100 [4] [1] <|
 .s (.imp 4 (.c (.d (.ro 1 ([] : List Int).length (gT (fInt .u8) ([] : List Int))))) (AImp.c CImp.nil)) <|
 .s (.impB 1 137 ((bS_segment_cursor ({ { p0 with x_b := [] } with x_bad := true })).set 0 (.d (.v (.slice none 0 0)))) (bS_segment_cursor ({ { { p0 with x_b := [] } with x_bad := true } with x_b := [] })) (CsImp.cons CImp.nil (CsImp.cons CImp.same CsImp.nil))) <|
 .lf 3 [4] [1] (([] : List Int), { { { p0 with x_b := [] } with x_bad := true } with x_b := [] })
 ) (
 .gd ((0 : Int) ≤ (0 : Int) ∧ (0 : Int) ≤ (p1 : Int) ∧ (p1 : Int) ≤ (p0.x_b.length : Int)) fun g1 =>
 .rp 4 6 100 [0, 1, 28] [1] (some (((0 : Int) ≤ (0 : Int) ∧ (0 : Int) ≤ (p1 : Int) ∧ (p1 : Int) ≤ (p0.x_b.length : Int)))) (ob1 g1) <|
 .s (.imp 28 (.c (.d (.ro 1 (sub p0.x_b 0 p1).length (gT (fInt .u8) (sub p0.x_b 0 p1))))) (AImp.c (CImp.sub g1))) <|
 .r 0 1 100 [0, 1, 5] [1] <|
 .gd ((0 : Int) ≤ (p1 : Int) ∧ (p1 : Int) ≤ ((p0.x_b.length : Int) : Int) ∧ ((p0.x_b.length : Int) : Int) ≤ (p0.x_b.length : Int)) fun g2 =>
 .rp 4 7 100 [5, 29, 35] [1] (some (((0 : Int) ≤ (p1 : Int) ∧ (p1 : Int) ≤ ((p0.x_b.length : Int) : Int) ∧ ((p0.x_b.length : Int) : Int) ≤ (p0.x_b.length : Int)))) (ob1 g2) <|
 .s (.imp 35 (.c (.d (.ro 1 (sub p0.x_b p1 (p0.x_b.length : Int)).length (gT (fInt .u8) (sub p0.x_b p1 (p0.x_b.length : Int)))))) (AImp.c (CImp.sub g2))) <|
 .r 0 3 100 [5] [1] <|
 .r 4 2 100 [4] [1] <|
 .lf 3 [4] [1] ((sub p0.x_b 0 p1), { p0 with x_b := (sub p0.x_b p1 (p0.x_b.length : Int)) })
 )
/-- (*logtide/segment.cursor).take -/
theorem c_segment_cursor_take {p0 : S_segment_cursor} {p1 : Int} {r : List Int × S_segment_cursor} (h : F_segment_cursor_take p0 p1 = some r) : Spec Tryz.prog 111 [.c (.np 1 2 0 0), xi p1] [(1, .box 137 (bS_segment_cursor p0))] (.c (.d (.ro 1 r.1.length (gT (fInt .u8) r.1)))) [(1, .box 137 (bS_segment_cursor r.2))] :=
  Cert.spec [1] (fun r : List Int × S_segment_cursor => .c (.d (.ro 1 r.1.length (gT (fInt .u8) r.1)))) (fun r => [(1, .box 137 (bS_segment_cursor r.2))]) (z_segment_cursor_take p0 p1) Tryz.func111 rfl (by kernel_rfl) h
noncomputable def L_segment_cursor_fixed_2 (r1 : List Int × S_segment_cursor) (j2 : Int × Int) : Option ((Int × Int) ⊕ ((Int × S_segment_cursor) ⊕ (Int × S_segment_cursor))) :=
 cond (decide (j2.2 < (r1.1.length : Int))) (
 gd ((0 : Int) ≤ j2.2 ∧ j2.2 < (r1.1.length : Int)) (
 bd (IntKind.wrap .u64 ((BitVec.ofInt 64 (IntKind.wrap .u64 (j2.1 * 2 ^ (min (Int.toNat 8) 64))) ||| BitVec.ofInt 64 (IntKind.wrap .u64 ((r1.1.getD (Int.toNat j2.2) default)))).toNat : Int)) fun x3 =>
 some (.inl (x3, (IntKind.wrap .i64 (j2.2 + 1)))))) (
 some (.inr (.inl (j2.1, r1.2))))
noncomputable def F_segment_cursor_fixed (p0 : S_segment_cursor) (p1 : Int) : Option (Int × S_segment_cursor) :=
 bindE (σ := (Int × S_segment_cursor)) (
 bnd (F_segment_cursor_take p0 p1) fun r1 =>
 loop (L_segment_cursor_fixed_2 r1) (0, 0)) fun j1 =>
 some (j1.1, j1.2)
noncomputable def z_segment_cursor_fixed (p0 : S_segment_cursor) (p1 : Int) : Cert Tryz.prog 23 (Int × S_segment_cursor) :=
 .r 2 1 100 [0, 1] [1] <|
 .r 4 1 100 [0, 1, 5] [1] <|
 .sq 2 (fun j1 : (Int × S_segment_cursor) => ⟨[(5, .c (.d (.v (.int .u64 j1.1))))], [(1, .box 137 (bS_segment_cursor j1.2))]⟩) (
 .r 2 2 100 [5, 8, 9] [1] <|
 .bind (F_segment_cursor_take p0 p1) fun r1 hr1 =>
 .s (.call [(1, 1)] [] (c_segment_cursor_take hr1)) <|
 .r 0 2 100 [5, 10, 11, 12] [1] <|
 .s (.cn [5, 10, 11, 12] [1]) <|
 .lp 3 (fun j2 : (Int × Int) => ⟨[(5, .c (.d (.v (.int .u64 j2.1)))), (10, .c (.d (.ro 1 r1.1.length (gT (fInt .u8) r1.1)))), (11, xi (r1.1.length : Int)), (12, xi j2.2)], [(1, .box 137 (bS_segment_cursor r1.2))]⟩) (0, 0) fun j2 =>
 .r 2 1 100 [5, 10, 11, 12, 13] [1] <|
 .cond 3 (
 .gd ((0 : Int) ≤ j2.2 ∧ j2.2 < (r1.1.length : Int)) fun g2 =>
 .rp 6 3 100 [5, 7, 10, 11, 12] [1] (some (((0 : Int) ≤ j2.2 ∧ j2.2 < (r1.1.length : Int)))) (ob1 g2) <|
 .rp 3 6 100 [5, 10, 11, 12] [1] (some (((0 : Int) ≤ (8 : Int)))) (ob1 (by decide)) <|
 .bs ((IntKind.wrap .u64 ((BitVec.ofInt 64 (IntKind.wrap .u64 (j2.1 * 2 ^ (min (Int.toNat 8) 64))) ||| BitVec.ofInt 64 (IntKind.wrap .u64 ((r1.1.getD (Int.toNat j2.2) default)))).toNat : Int))) [5] (fun x3 => .c (.d (.v (.int .u64 x3)))) fun x3 =>
 .r 4 2 100 [5, 10, 11, 12] [1] <|
 .lf 1 [5, 10, 11, 12] [1] (.inl (x3, (IntKind.wrap .i64 (j2.2 + 1))))
 ) (
 .lf 1 [5] [1] (.inr (.inl (j2.1, r1.2)))
 )
 ) fun j1 =>
 .r 2 2 100 [4] [1] <|
 .lf 3 [4] [1] (j1.1, j1.2)
/-- (*logtide/segment.cursor).fixed -/
theorem c_segment_cursor_fixed {p0 : S_segment_cursor} {p1 : Int} {r : Int × S_segment_cursor} (h : F_segment_cursor_fixed p0 p1 = some r) : Spec Tryz.prog 83 [.c (.np 1 2 0 0), xi p1] [(1, .box 137 (bS_segment_cursor p0))] (.c (.d (.v (.int .u64 r.1)))) [(1, .box 137 (bS_segment_cursor r.2))] :=
  Cert.spec [1] (fun r : Int × S_segment_cursor => .c (.d (.v (.int .u64 r.1)))) (fun r => [(1, .box 137 (bS_segment_cursor r.2))]) (z_segment_cursor_fixed p0 p1) Tryz.func83 rfl (by kernel_rfl) h
noncomputable def L_segment_Crc_4 (j4 : Int × Int) : Option ((Int × Int) ⊕ ((Int) ⊕ ((Int × Int) ⊕ ((Int) ⊕ (Int))))) :=
 cond (decide (j4.2 < 8)) (
 bd (IntKind.wrap .u32 ((BitVec.ofInt 32 (Int.fdiv j4.1 (2 ^ (min (Int.toNat 1) 32))) ^^^ BitVec.ofInt 32 (IntKind.wrap .u32 ((BitVec.ofInt 32 3988292384 &&& BitVec.ofInt 32 (IntKind.wrap .u32 (0 - (IntKind.wrap .u32 ((BitVec.ofInt 32 j4.1 &&& BitVec.ofInt 32 1).toNat : Int))))).toNat : Int))).toNat : Int)) fun x3 =>
 some (.inl (x3, (IntKind.wrap .i64 (j4.2 + 1))))) (
 some (.inr (.inl j4.1)))
noncomputable def L_segment_Crc_2 (p0 : List Int) (j2 : Int × Int) : Option ((Int × Int) ⊕ ((Int) ⊕ (Int))) :=
 cond (decide (j2.2 < (p0.length : Int))) (
 bindE (σ := (Int)) (
 gd ((0 : Int) ≤ j2.2 ∧ j2.2 < (p0.length : Int)) (
 bd (IntKind.wrap .u32 ((BitVec.ofInt 32 j2.1 ^^^ BitVec.ofInt 32 (IntKind.wrap .u32 ((p0.getD (Int.toNat j2.2) default)))).toNat : Int)) fun x2 =>
 loop L_segment_Crc_4 (x2, 0))) fun j3 =>
 some (.inl (j3, (IntKind.wrap .i64 (j2.2 + 1))))) (
 some (.inr (.inl j2.1)))
noncomputable def F_segment_Crc (p0 : List Int) : Option (Int) :=
 bindE (σ := (Int)) (
 loop (L_segment_Crc_2 p0) (4294967295, 0)) fun j1 =>
 some (IntKind.wrap .u32 ((BitVec.ofInt 32 4294967295 ^^^ BitVec.ofInt 32 j1).toNat : Int))
noncomputable def z_segment_Crc (p0 : List Int) : Cert Tryz.prog 29 (Int) :=
 .r 2 1 100 [0] [] <|
 .r 4 1 100 [0, 3] [] <|
 .sq 2 (fun j1 : (Int) => ⟨[(3, .c (.d (.v (.int .u32 j1))))], []⟩) (
 .r 2 3 100 [3, 6, 7, 8] [] <|
 .s (.cn [3, 6, 7, 8] []) <|
 .lp 3 (fun j2 : (Int × Int) => ⟨[(3, .c (.d (.v (.int .u32 j2.1)))), (6, .c (.d (.ro 1 p0.length (gT (fInt .u8) p0)))), (7, xi (p0.length : Int)), (8, xi j2.2)], []⟩) (4294967295, 0) fun j2 =>
 .r 2 1 100 [3, 6, 7, 8, 9] [] <|
 .cond 3 (
 .sq 2 (fun j3 : (Int) => ⟨[(3, .c (.d (.v (.int .u32 j3)))), (6, .c (.d (.ro 1 p0.length (gT (fInt .u8) p0)))), (7, xi (p0.length : Int)), (8, xi j2.2)], []⟩) (
 .gd ((0 : Int) ≤ j2.2 ∧ j2.2 < (p0.length : Int)) fun g1 =>
 .rp 3 3 100 [3, 5, 6, 7, 8] [] (some (((0 : Int) ≤ j2.2 ∧ j2.2 < (p0.length : Int)))) (ob1 g1) <|
 .r 4 5 100 [3, 6, 7, 8] [] <|
 .bs ((IntKind.wrap .u32 ((BitVec.ofInt 32 j2.1 ^^^ BitVec.ofInt 32 (IntKind.wrap .u32 ((p0.getD (Int.toNat j2.2) default)))).toNat : Int))) [3] (fun x2 => .c (.d (.v (.int .u32 x2)))) fun x2 =>
 .r 4 1 100 [3, 6, 7, 8, 16] [] <|
 .s (.cn [3, 6, 7, 8, 16] []) <|
 .lp 3 (fun j4 : (Int × Int) => ⟨[(3, .c (.d (.v (.int .u32 j4.1)))), (6, .c (.d (.ro 1 p0.length (gT (fInt .u8) p0)))), (7, xi (p0.length : Int)), (8, xi j2.2), (16, xi j4.2)], []⟩) (x2, 0) fun j4 =>
 .r 2 1 100 [3, 6, 7, 8, 16, 17] [] <|
 .cond 3 (
 .rp 5 8 100 [3, 6, 7, 8, 16] [] (some (((0 : Int) ≤ (1 : Int)))) (ob1 (by decide)) <|
 .bs ((IntKind.wrap .u32 ((BitVec.ofInt 32 (Int.fdiv j4.1 (2 ^ (min (Int.toNat 1) 32))) ^^^ BitVec.ofInt 32 (IntKind.wrap .u32 ((BitVec.ofInt 32 3988292384 &&& BitVec.ofInt 32 (IntKind.wrap .u32 (0 - (IntKind.wrap .u32 ((BitVec.ofInt 32 j4.1 &&& BitVec.ofInt 32 1).toNat : Int))))).toNat : Int))).toNat : Int))) [3] (fun x3 => .c (.d (.v (.int .u32 x3)))) fun x3 =>
 .r 4 2 100 [3, 6, 7, 8, 16] [] <|
 .lf 1 [3, 6, 7, 8, 16] [] (.inl (x3, (IntKind.wrap .i64 (j4.2 + 1))))
 ) (
 .lf 1 [3, 6, 7, 8] [] (.inr (.inl j4.1))
 )
 ) fun j3 =>
 .r 1 2 100 [3, 6, 7, 8] [] <|
 .lf 1 [3, 6, 7, 8] [] (.inl (j3, (IntKind.wrap .i64 (j2.2 + 1))))
 ) (
 .lf 1 [3] [] (.inr (.inl j2.1))
 )
 ) fun j1 =>
 .r 2 3 100 [2] [] <|
 .lf 3 [2] [] (IntKind.wrap .u32 ((BitVec.ofInt 32 4294967295 ^^^ BitVec.ofInt 32 j1).toNat : Int))
/-- logtide/segment.Crc -/
theorem c_segment_Crc {p0 : List Int} {r : Int} (h : F_segment_Crc p0 = some r) : Spec Tryz.prog 84 [.c (.d (.ro 1 p0.length (gT (fInt .u8) p0)))] [] (.c (.d (.v (.int .u32 r)))) [] :=
  Cert.spec [] (fun r : Int => .c (.d (.v (.int .u32 r)))) (fun r => []) (z_segment_Crc p0) Tryz.func84 rfl (by kernel_rfl) h
noncomputable def L_segment_parse_2 (j2 : Int × Int × S_segment_cursor × List S_segment_entry) : Option ((Int × Int × S_segment_cursor × List S_segment_entry) ⊕ ((Int × S_segment_cursor × List S_segment_entry) ⊕ (S_Summary × List S_segment_entry × Int))) :=
 cond (decide (j2.2.1 < 12)) (
 bnd (F_segment_cursor_fixed j2.2.2.1 4) fun r8 =>
 bnd (F_segment_cursor_fixed r8.2 4) fun r9 =>
 bd (IntKind.wrap .i64 (j2.1 + ((⟨(IntKind.wrap .i64 (r8.1)), (IntKind.wrap .u32 (r9.1))⟩ : S_segment_entry).x_length))) fun x10 =>
 gd ((j2.2.2.2.length + 1) * 16 ≤ 140737488355328) (
 bd (j2.2.2.2 ++ [(⟨(IntKind.wrap .i64 (r8.1)), (IntKind.wrap .u32 (r9.1))⟩ : S_segment_entry)]) fun x12 =>
 some (.inl (x10, (IntKind.wrap .i64 (j2.2.1 + 1)), r9.2, x12)))) (
 some (.inr (.inl (j2.1, j2.2.2.1, j2.2.2.2))))
noncomputable def F_segment_parse (p0 : List Int) : Option (S_Summary × List S_segment_entry × Int) :=
 cond (decide ((p0.length : Int) < 124)) (
 some ((⟨(0 : Int), (0 : Int), (0 : Int)⟩ : S_Summary), ([] : List S_segment_entry), 14)) (
 gd ((0 : Int) ≤ (0 : Int) ∧ (0 : Int) ≤ (4 : Int) ∧ (4 : Int) ≤ (p0.length : Int)) (
 bd (!((strOf (sub p0 0 4).length fun i => (sub p0 0 4).getD i default).toList == (ByteArray.mk #[76, 84, 83, 49]).toList)) fun x2 =>
 cond x2 (
 some ((⟨(0 : Int), (0 : Int), (0 : Int)⟩ : S_Summary), ([] : List S_segment_entry), 1)) (
 gd ((0 : Int) ≤ (4 : Int) ∧ (4 : Int) ≤ ((p0.length : Int) : Int) ∧ ((p0.length : Int) : Int) ≤ (p0.length : Int)) (
 bnd (F_segment_cursor_fixed (⟨(sub p0 4 (p0.length : Int)), false⟩ : S_segment_cursor) 4) fun r4 =>
 bnd (F_segment_cursor_fixed r4.2 8) fun r5 =>
 bnd (F_segment_cursor_fixed r5.2 8) fun r6 =>
 bd (⟨(IntKind.wrap .i64 (r4.1)), (IntKind.wrap .i64 (r5.1)), (IntKind.wrap .i64 (r6.1))⟩ : S_Summary) fun x7 =>
 bindE (σ := (Int × S_segment_cursor × List S_segment_entry)) (
 loop L_segment_parse_2 (124, 0, r6.2, ([] : List S_segment_entry))) fun j1 =>
 bnd (F_segment_cursor_fixed j1.2.1 4) fun r13 =>
 gd ((0 : Int) ≤ (0 : Int) ∧ (0 : Int) ≤ (120 : Int) ∧ (120 : Int) ≤ (p0.length : Int)) (
 bnd (F_segment_Crc (sub p0 0 120)) fun r15 =>
 cond ((IntKind.wrap .u32 (r13.1)) != r15) (
 some ((⟨(0 : Int), (0 : Int), (0 : Int)⟩ : S_Summary), ([] : List S_segment_entry), 15)) (
 cond (j1.1 != (p0.length : Int)) (
 some ((⟨(0 : Int), (0 : Int), (0 : Int)⟩ : S_Summary), ([] : List S_segment_entry), 14)) (
 some (x7, j1.2.2, 0))))))))
noncomputable def z_segment_parse (p0 : List Int) : Cert Tryz.prog 63 (S_Summary × List S_segment_entry × Int) :=
 .r 2 3 100 [0, 2] [100] <|
 .r 6 4 101 [0, 2, 10] [100] <|
 .cond 2 (
 .r 2 4 101 [2, 3, 4] [100] <|
 .s (.own 3 101 140 2 (gT fS_segment_entry [])) <|
 .s (.rn 101 901) <|
 .lf 3 [2, 3, 4] [100, 901] ((⟨(0 : Int), (0 : Int), (0 : Int)⟩ : S_Summary), ([] : List S_segment_entry), 14)
 ) (
 .gd ((0 : Int) ≤ (0 : Int) ∧ (0 : Int) ≤ (4 : Int) ∧ (4 : Int) ≤ (p0.length : Int)) fun g1 =>
 .rp 2 2 102 [0, 2, 17] [100] (some (((0 : Int) ≤ (0 : Int) ∧ (0 : Int) ≤ (4 : Int) ∧ (4 : Int) ≤ (p0.length : Int)))) (ob1 g1) <|
 .s (.imp 17 (.c (.d (.ro 1 (sub p0 0 4).length (gT (fInt .u8) (sub p0 0 4))))) (AImp.c (CImp.sub g1))) <|
 .rp 0 3 102 [0, 2, 15] [100] (some ((∃ f : Nat → Int, gT fU8 (sub p0 0 4) = fun i _ => .v (.int .u8 (f i))))) (ob1 (⟨fun i => (sub p0 0 4).getD i default, rfl⟩)) <|
 .bs ((!((strOf (sub p0 0 4).length fun i => (sub p0 0 4).getD i default).toList == (ByteArray.mk #[76, 84, 83, 49]).toList))) [15] xb fun x2 =>
 .cond 2 (
 .r 2 4 102 [2, 3, 4] [100] <|
 .s (.own 3 102 140 2 (gT fS_segment_entry [])) <|
 .s (.rn 102 901) <|
 .lf 3 [2, 3, 4] [100, 901] ((⟨(0 : Int), (0 : Int), (0 : Int)⟩ : S_Summary), ([] : List S_segment_entry), 1)
 ) (
 .gd ((0 : Int) ≤ (4 : Int) ∧ (4 : Int) ≤ ((p0.length : Int) : Int) ∧ ((p0.length : Int) : Int) ≤ (p0.length : Int)) fun g3 =>
 .rp 5 2 103 [0, 2, 22] [100] (some (((0 : Int) ≤ (4 : Int) ∧ (4 : Int) ≤ ((p0.length : Int) : Int) ∧ ((p0.length : Int) : Int) ≤ (p0.length : Int)))) (ob1 g3) <|
 .s (.imp 22 (.c (.d (.ro 1 (sub p0 4 (p0.length : Int)).length (gT (fInt .u8) (sub p0 4 (p0.length : Int)))))) (AImp.c (CImp.sub g3))) <|
 .r 0 3 103 [0, 2, 5] [100, 103] <|
 .r 4 0 104 [0, 2, 5] [100, 103] <|
 .bind (F_segment_cursor_fixed (⟨(sub p0 4 (p0.length : Int)), false⟩ : S_segment_cursor) 4) fun r4 hr4 =>
 .s (.call [(1, 103)] [] (c_segment_cursor_fixed hr4)) <|
 .r 0 1 104 [0, 2, 5, 25] [100, 103] <|
 .bind (F_segment_cursor_fixed r4.2 8) fun r5 hr5 =>
 .s (.call [(1, 103)] [] (c_segment_cursor_fixed hr5)) <|
 .r 0 1 104 [0, 2, 5, 25, 27] [100, 103] <|
 .bind (F_segment_cursor_fixed r5.2 8) fun r6 hr6 =>
 .s (.call [(1, 103)] [] (c_segment_cursor_fixed hr6)) <|
 .r 0 4 104 [0, 2, 5, 6] [100, 103, 104] <|
 .bh ((⟨(IntKind.wrap .i64 (r4.1)), (IntKind.wrap .i64 (r5.1)), (IntKind.wrap .i64 (r6.1))⟩ : S_Summary)) 104 (fun x7 => .box 78 (bS_Summary x7)) fun x7 =>
 .r 4 1 105 [0, 2, 5, 6, 7] [100, 103, 104] <|
 .r 4 1 105 [0, 2, 5, 6, 7, 8] [100, 103, 104] <|
 .sq 2 (fun j1 : (Int × S_segment_cursor × List S_segment_entry) => ⟨[(0, .c (.d (.ro 1 p0.length (gT (fInt .u8) p0)))), (2, .c (.np 100 3 0 0)), (5, .c (.np 103 2 0 0)), (6, .c (.np 104 3 0 0)), (7, .c (.nm 105)), (8, xi j1.1)], [(100, .box 78 (bS_Summary (⟨(0 : Int), (0 : Int), (0 : Int)⟩ : S_Summary))), (103, .box 137 (bS_segment_cursor j1.2.1)), (104, .box 78 (bS_Summary x7)), (105, .rows 140 2 j1.2.2.length (gT fS_segment_entry j1.2.2))]⟩) (
 .r 2 1 105 [0, 2, 5, 6, 7, 8, 31] [100, 103, 104] <|
 .s (.own 7 105 140 2 (gT fS_segment_entry [])) <|
 .s (.cn [0, 2, 5, 6, 7, 8, 31] [100, 103, 104, 105]) <|
 .lp 3 (fun j2 : (Int × Int × S_segment_cursor × List S_segment_entry) => ⟨[(0, .c (.d (.ro 1 p0.length (gT (fInt .u8) p0)))), (2, .c (.np 100 3 0 0)), (5, .c (.np 103 2 0 0)), (6, .c (.np 104 3 0 0)), (7, .c (.nm 105)), (8, xi j2.1), (31, xi j2.2.1)], [(100, .box 78 (bS_Summary (⟨(0 : Int), (0 : Int), (0 : Int)⟩ : S_Summary))), (103, .box 137 (bS_segment_cursor j2.2.2.1)), (104, .box 78 (bS_Summary x7)), (105, .rows 140 2 j2.2.2.2.length (gT fS_segment_entry j2.2.2.2))]⟩) (124, 0, r6.2, ([] : List S_segment_entry)) fun j2 =>
 .r 2 1 106 [0, 2, 5, 6, 7, 8, 31, 32] [100, 103, 104, 105] <|
 .cond 3 (
 .r 6 0 106 [0, 2, 5, 6, 7, 8, 31] [100, 103, 104, 105] <|
 .bind (F_segment_cursor_fixed j2.2.2.1 4) fun r8 hr8 =>
 .s (.call [(1, 103)] [] (c_segment_cursor_fixed hr8)) <|
 .r 0 1 106 [0, 2, 5, 6, 7, 8, 31, 34] [100, 103, 104, 105] <|
 .bind (F_segment_cursor_fixed r8.2 4) fun r9 hr9 =>
 .s (.call [(1, 103)] [] (c_segment_cursor_fixed hr9)) <|
 .r 0 4 106 [0, 2, 5, 6, 7, 8, 9, 31] [100, 103, 104, 105, 106] <|
 .r 4 5 107 [0, 2, 5, 6, 7, 8, 9, 31] [100, 103, 104, 105, 106] <|
 .bs ((IntKind.wrap .i64 (j2.1 + ((⟨(IntKind.wrap .i64 (r8.1)), (IntKind.wrap .u32 (r9.1))⟩ : S_segment_entry).x_length)))) [8] xi fun x10 =>
 .r 3 3 107 [0, 2, 5, 6, 8, 31, 42, 44] [100, 103, 104, 105] <|
 .gd ((j2.2.2.2.length + 1) * 16 ≤ 140737488355328) fun g11 =>
 .s (.app1 fS_segment_entry (j2.2.2.2) (⟨(IntKind.wrap .i64 (r8.1)), (IntKind.wrap .u32 (r9.1))⟩ : S_segment_entry) (gT fS_segment_entry j2.2.2.2) (.inr rfl) 140 2 16 107 g11) <|
 .r 0 1 108 [0, 2, 5, 6, 7, 8, 31] [100, 103, 104, 107] <|
 .bh ((j2.2.2.2 ++ [(⟨(IntKind.wrap .i64 (r8.1)), (IntKind.wrap .u32 (r9.1))⟩ : S_segment_entry)])) 107 (fun x12 => .rows 140 2 x12.length (gT fS_segment_entry x12)) fun x12 =>
 .r 4 2 108 [0, 2, 5, 6, 7, 8, 31] [100, 103, 104, 107] <|
 .s (.cn [0, 2, 5, 6, 7, 8, 31] [100, 103, 104, 107]) <|
 .s (.rn 107 105) <|
 .lf 1 [0, 2, 5, 6, 7, 8, 31] [100, 103, 104, 105] (.inl (x10, (IntKind.wrap .i64 (j2.2.1 + 1)), r9.2, x12))
 ) (
 .lf 1 [0, 2, 5, 6, 7, 8] [100, 103, 104, 105] (.inr (.inl (j2.1, j2.2.2.1, j2.2.2.2)))
 )
 ) fun j1 =>
 .s (.cn [0, 2, 5, 6, 7, 8] [100, 103, 104, 105]) <|
 .bind (F_segment_cursor_fixed j1.2.1 4) fun r13 hr13 =>
 .gd ((0 : Int) ≤ (0 : Int) ∧ (0 : Int) ≤ (120 : Int) ∧ (120 : Int) ≤ (p0.length : Int)) fun g14 =>
 .bind (F_segment_Crc (sub p0 0 120)) fun r15 hr15 =>
 .m 3 <|
 .s (.dr [.call 0 [(1, 103)] [] (c_segment_cursor_fixed hr13), .call 4 [] [] ((c_segment_Crc hr15).args (AsImp.cons (AImp.c (CImp.sub g14)) AsImp.nil))] ([(3, some (((0 : Int) ≤ (0 : Int) ∧ (0 : Int) ≤ (120 : Int) ∧ (120 : Int) ≤ (p0.length : Int))))]) (obsAll.cons (ob1 g14) obsAll.nil) [0, 2, 6, 7, 8, 47] [100, 104, 105]) <|
 .cond 2 (
 .r 2 4 108 [2, 3, 4] [100] <|
 .s (.own 3 108 140 2 (gT fS_segment_entry [])) <|
 .s (.rn 108 901) <|
 .lf 3 [2, 3, 4] [100, 901] ((⟨(0 : Int), (0 : Int), (0 : Int)⟩ : S_Summary), ([] : List S_segment_entry), 15)
 ) (
 .r 2 5 109 [2, 6, 7, 55] [100, 104, 105] <|
 .cond 2 (
 .r 2 4 109 [2, 3, 4] [100] <|
 .s (.own 3 109 140 2 (gT fS_segment_entry [])) <|
 .s (.rn 109 901) <|
 .lf 3 [2, 3, 4] [100, 901] ((⟨(0 : Int), (0 : Int), (0 : Int)⟩ : S_Summary), ([] : List S_segment_entry), 14)
 ) (
 .r 5 5 110 [2, 3, 4] [100, 105] <|
 .s (.rn 105 901) <|
 .lf 3 [2, 3, 4] [100, 901] (x7, j1.2.2, 0)
 )
 )
 )
 )
/-- logtide/segment.parse -/
theorem c_segment_parse {p0 : List Int} {r : S_Summary × List S_segment_entry × Int} (h : F_segment_parse p0 = some r) : Spec Tryz.prog 56 [.c (.d (.ro 1 p0.length (gT (fInt .u8) p0)))] [] (.tup [.agg (bS_Summary r.1), .c (.nm 901), xi r.2.2]) [(901, .rows 140 2 r.2.1.length (gT fS_segment_entry r.2.1))] :=
  Cert.spec [901] (fun r : S_Summary × List S_segment_entry × Int => .tup [.agg (bS_Summary r.1), .c (.nm 901), xi r.2.2]) (fun r => [(901, .rows 140 2 r.2.1.length (gT fS_segment_entry r.2.1))]) (z_segment_parse p0) Tryz.func56 rfl (by kernel_rfl) h
noncomputable def F_segment_Summary (p0 : List Int) : Option (S_Summary × Int) :=
 bnd (F_segment_parse p0) fun r1 =>
 some (r1.1, r1.2.2)
noncomputable def z_segment_Summary (p0 : List Int) : Cert Tryz.prog 15 (S_Summary × Int) :=
 .r 2 2 100 [0, 2] [100] <|
 .r 4 1 101 [2, 8] [100] <|
 .bind (F_segment_parse p0) fun r1 hr1 =>
 .s (.call [] [(901, 101)] (c_segment_parse hr1)) <|
 .r 0 8 102 [2, 4, 6] [100, 102] <|
 .r 4 4 103 [2, 3] [100] <|
 .lf 3 [2, 3] [100] (r1.1, r1.2.2)
/-- logtide/segment.Summary -/
theorem c_segment_Summary {p0 : List Int} {r : S_Summary × Int} (h : F_segment_Summary p0 = some r) : Spec Tryz.prog 33 [.c (.d (.ro 1 p0.length (gT (fInt .u8) p0)))] [] (.tup [.agg (bS_Summary r.1), xi r.2]) [] :=
  Cert.spec [] (fun r : S_Summary × Int => .tup [.agg (bS_Summary r.1), xi r.2]) (fun r => []) (z_segment_Summary p0) Tryz.func33 rfl (by kernel_rfl) h
noncomputable def F_tiers_Load (p0 : List S_Blob) (p1 : S_Manifest) (p2 : Int) : Option (List Int × Int) :=
 bnd (F_manifest_Find p1 p2) fun r1 =>
 cond (!r1.2) (
 some (([] : List Int), 9)) (
 bnd (F_tiers_Get p0 p2 r1.1.Tier) fun r2 =>
 bnd (F_segment_Summary r2.1) fun r3 =>
 cond (cond (!r2.2) true (r3.2 != 0)) (
 some (([] : List Int), 25)) (
 some (r2.1, 0)))
noncomputable def z_tiers_Load (p0 : List S_Blob) (p1 : S_Manifest) (p2 : Int) : Cert Tryz.prog 41 (List Int × Int) :=
 .r 2 3 100 [0, 2, 4] [100] <|
 .r 4 2 101 [0, 2, 14, 15] [] <|
 .bind (F_manifest_Find p1 p2) fun r1 hr1 =>
 .s (.call [] [] (c_manifest_Find hr1)) <|
 .r 0 6 101 [0, 2, 8, 9] [101] <|
 .r 5 2 102 [0, 2, 8, 20] [101] <|
 .cond 2 (
 .r 2 2 102 [6, 7] [] <|
 .s (.imp 6 (.c (.d (.ro 1 ([] : List Int).length (gT (fInt .u8) ([] : List Int))))) (AImp.c CImp.nil)) <|
 .lf 3 [6, 7] [] (([] : List Int), 9)
 ) (
 .r 4 4 102 [22, 23, 25] [] <|
 .bind (F_tiers_Get p0 p2 r1.1.Tier) fun r2 hr2 =>
 .s (.call [] [(900, 102)] (c_tiers_Get hr2)) <|
 .r 0 5 103 [9, 10] [102] <|
 .r 5 1 103 [9, 10, 30] [102] <|
 .s (.fz 102) <|
 .bind (F_segment_Summary r2.1) fun r3 hr3 =>
 .s (.call [] [] (c_segment_Summary hr3)) <|
 .r 0 6 103 [9, 10, 12] [] <|
 .rp 4 6 104 [10, 39] [] (some ((((!(!r2.2)) = true → (!(!r2.2)) = true) ∧ ((!r2.2) = false → (!(!r2.2)) = true)))) (ob1 (⟨fun h => h, (fun h => by rw [h]; rfl)⟩)) <|
 .cond 2 (
 .r 2 2 104 [6, 7] [] <|
 .s (.imp 6 (.c (.d (.ro 1 ([] : List Int).length (gT (fInt .u8) ([] : List Int))))) (AImp.c CImp.nil)) <|
 .lf 3 [6, 7] [] (([] : List Int), 25)
 ) (
 .r 4 3 104 [6, 7] [] <|
 .lf 3 [6, 7] [] (r2.1, 0)
 )
 )
/-- logtide/tiers.Load -/
theorem c_tiers_Load {p0 : List S_Blob} {p1 : S_Manifest} {p2 : Int} {r : List Int × Int} (h : F_tiers_Load p0 p1 p2 = some r) : Spec Tryz.prog 12 [.c (.d (.ro 3 p0.length (gT fS_Blob p0))), .agg (bS_Manifest p1), xi p2] [] (.tup [.c (.d (.ro 1 r.1.length (gT (fInt .u8) r.1))), xi r.2]) [] :=
  Cert.spec [] (fun r : List Int × Int => .tup [.c (.d (.ro 1 r.1.length (gT (fInt .u8) r.1))), xi r.2]) (fun r => []) (z_tiers_Load p0 p1 p2) Tryz.func12 rfl (by kernel_rfl) h
noncomputable def F_r33_Get (p0 : List S_Blob) (p1 : Int) (p2 : Int) : Option (List Int × Bool) :=
 bnd (F_r33_at p0 p1 p2) fun r1 =>
 cond r1.2 (
 gd ((0 : Int) ≤ r1.1 ∧ r1.1 < (p0.length : Int)) (
 gd ((([] : List Int).length + ((p0.getD (Int.toNat r1.1) default).Data).length) * 1 ≤ 140737488355328) (
 some ((([] : List Int) ++ ((p0.getD (Int.toNat r1.1) default).Data)), true)))) (
 some (([] : List Int), false))
noncomputable def z_r33_Get (p0 : List S_Blob) (p1 : Int) (p2 : Int) : Cert Tryz.prog 24 (List Int × Bool) :=
 .r 2 2 100 [0, 1, 2] [] <|
 .r 5 3 100 [0, 11, 12, 13] [] <|
 .bind (F_r33_at p0 p1 p2) fun r1 hr1 =>
 .s (.call [] [] (c_r33_at hr1)) <|
 .r 0 5 100 [0, 8, 9] [] <|
 .r 4 1 100 [0, 8, 17] [] <|
 .cond 2 (
 .gd ((0 : Int) ≤ r1.1 ∧ r1.1 < (p0.length : Int)) fun g2 =>
 .rp 2 5 100 [22] [] (some (((0 : Int) ≤ r1.1 ∧ r1.1 < (p0.length : Int)))) (ob1 g2) <|
 .gd ((([] : List Int).length + ((p0.getD (Int.toNat r1.1) default).Data).length) * 1 ≤ 140737488355328) fun g3 =>
 .s (.appL (fInt .u8) (([] : List Int)) ((p0.getD (Int.toNat r1.1) default).Data) (fun _ _ => .v undef) (.inl rfl) 5 1 1 100 g3) <|
 .r 0 2 101 [6, 7] [100] <|
 .s (.rn 100 900) <|
 .lf 3 [6, 7] [900] ((([] : List Int) ++ ((p0.getD (Int.toNat r1.1) default).Data)), true)
 ) (
 .r 4 2 101 [6, 7] [] <|
 .s (.own 6 101 5 1 (gT (fInt .u8) [])) <|
 .s (.rn 101 900) <|
 .lf 3 [6, 7] [900] (([] : List Int), false)
 )
/-- logtide/logtideref33.Get -/
theorem c_r33_Get {p0 : List S_Blob} {p1 : Int} {p2 : Int} {r : List Int × Bool} (h : F_r33_Get p0 p1 p2 = some r) : Spec Tryz.prog 34 [.c (.d (.ro 3 p0.length (gT fS_Blob p0))), xi p1, xi p2] [] (.tup [.c (.nm 900), xb r.2]) [(900, .rows 5 1 r.1.length (gT (fInt .u8) r.1))] :=
  Cert.spec [900] (fun r : List Int × Bool => .tup [.c (.nm 900), xb r.2]) (fun r => [(900, .rows 5 1 r.1.length (gT (fInt .u8) r.1))]) (z_r33_Get p0 p1 p2) Tryz.func34 rfl (by kernel_rfl) h
noncomputable def L_r27_Get_2 (p0 : List Int) (j2 : Int × Int) : Option ((Int × Int) ⊕ ((Int) ⊕ (Int))) :=
 cond (decide (j2.2 < (p0.length : Int))) (
 gd ((0 : Int) ≤ j2.2 ∧ j2.2 < (p0.length : Int)) (
 bd (IntKind.wrap .u64 ((BitVec.ofInt 64 (IntKind.wrap .u64 (j2.1 * 2 ^ (min (Int.toNat 8) 64))) ||| BitVec.ofInt 64 (IntKind.wrap .u64 ((p0.getD (Int.toNat j2.2) default)))).toNat : Int)) fun x2 =>
 some (.inl (x2, (IntKind.wrap .i64 (j2.2 + 1)))))) (
 some (.inr (.inl j2.1)))
noncomputable def F_r27_Get (p0 : List Int) : Option (Int) :=
 bindE (σ := (Int)) (
 loop (L_r27_Get_2 p0) (0, 0)) fun j1 =>
 some j1
noncomputable def z_r27_Get (p0 : List Int) : Cert Tryz.prog 20 (Int) :=
 .r 2 1 100 [0] [] <|
 .r 4 1 100 [0, 3] [] <|
 .sq 2 (fun j1 : (Int) => ⟨[(3, .c (.d (.v (.int .u64 j1))))], []⟩) (
 .r 2 1 100 [0, 3, 4] [] <|
 .s (.cn [0, 3, 4] []) <|
 .lp 3 (fun j2 : (Int × Int) => ⟨[(0, .c (.d (.ro 1 p0.length (gT (fInt .u8) p0)))), (3, .c (.d (.v (.int .u64 j2.1)))), (4, xi j2.2)], []⟩) (0, 0) fun j2 =>
 .r 3 4 100 [0, 3, 4, 8] [] <|
 .cond 2 (
 .gd ((0 : Int) ≤ j2.2 ∧ j2.2 < (p0.length : Int)) fun g1 =>
 .rp 5 9 100 [0, 3, 4] [] (some ((((0 : Int) ≤ (8 : Int)) ∧ ((0 : Int) ≤ j2.2 ∧ j2.2 < (p0.length : Int))))) (ob1 (⟨(by decide), g1⟩)) <|
 .bs ((IntKind.wrap .u64 ((BitVec.ofInt 64 (IntKind.wrap .u64 (j2.1 * 2 ^ (min (Int.toNat 8) 64))) ||| BitVec.ofInt 64 (IntKind.wrap .u64 ((p0.getD (Int.toNat j2.2) default)))).toNat : Int))) [3] (fun x2 => .c (.d (.v (.int .u64 x2)))) fun x2 =>
 .r 4 3 100 [0, 3, 4] [] <|
 .lf 1 [0, 3, 4] [] (.inl (x2, (IntKind.wrap .i64 (j2.2 + 1))))
 ) (
 .lf 1 [3] [] (.inr (.inl j2.1))
 )
 ) fun j1 =>
 .r 2 2 100 [2] [] <|
 .lf 3 [2] [] j1
/-- logtide/logtideref27.Get -/
theorem c_r27_Get {p0 : List Int} {r : Int} (h : F_r27_Get p0 = some r) : Spec Tryz.prog 57 [.c (.d (.ro 1 p0.length (gT (fInt .u8) p0)))] [] (.c (.d (.v (.int .u64 r)))) [] :=
  Cert.spec [] (fun r : Int => .c (.d (.v (.int .u64 r)))) (fun r => []) (z_r27_Get p0) Tryz.func57 rfl (by kernel_rfl) h
noncomputable def L_r27_place_2 (p1 : Int) (p0 : List Int) (j2 : Int × Int) : Option ((Int × Int) ⊕ ((Int) ⊕ (Int × Int))) :=
 cond (decide (j2.2 < p1)) (
 gd ((0 : Int) ≤ ((IntKind.wrap .i64 (16 + (IntKind.wrap .i64 (8 * j2.2)))) : Int) ∧ ((IntKind.wrap .i64 (16 + (IntKind.wrap .i64 (8 * j2.2)))) : Int) ≤ ((IntKind.wrap .i64 (20 + (IntKind.wrap .i64 (8 * j2.2)))) : Int) ∧ ((IntKind.wrap .i64 (20 + (IntKind.wrap .i64 (8 * j2.2)))) : Int) ≤ (p0.length : Int)) (
 bnd (F_r27_Get (sub p0 (IntKind.wrap .i64 (16 + (IntKind.wrap .i64 (8 * j2.2)))) (IntKind.wrap .i64 (20 + (IntKind.wrap .i64 (8 * j2.2)))))) fun r2 =>
 some (.inl ((IntKind.wrap .i64 (j2.1 + (IntKind.wrap .i64 (r2)))), (IntKind.wrap .i64 (j2.2 + 1)))))) (
 some (.inr (.inl j2.1)))
noncomputable def F_r27_place (p0 : List Int) (p1 : Int) : Option (Int × Int) :=
 bindE (σ := (Int)) (
 loop (L_r27_place_2 p1 p0) (124, 1)) fun j1 =>
 gd ((0 : Int) ≤ ((IntKind.wrap .i64 (16 + (IntKind.wrap .i64 (8 * p1)))) : Int) ∧ ((IntKind.wrap .i64 (16 + (IntKind.wrap .i64 (8 * p1)))) : Int) ≤ ((IntKind.wrap .i64 (20 + (IntKind.wrap .i64 (8 * p1)))) : Int) ∧ ((IntKind.wrap .i64 (20 + (IntKind.wrap .i64 (8 * p1)))) : Int) ≤ (p0.length : Int)) (
 bnd (F_r27_Get (sub p0 (IntKind.wrap .i64 (16 + (IntKind.wrap .i64 (8 * p1)))) (IntKind.wrap .i64 (20 + (IntKind.wrap .i64 (8 * p1)))))) fun r4 =>
 some (j1, (IntKind.wrap .i64 (r4))))
noncomputable def z_r27_place (p0 : List Int) (p1 : Int) : Cert Tryz.prog 36 (Int × Int) :=
 .r 2 2 100 [0, 1] [] <|
 .r 4 1 100 [0, 1, 6] [] <|
 .sq 2 (fun j1 : (Int) => ⟨[(0, .c (.d (.ro 1 p0.length (gT (fInt .u8) p0)))), (1, xi p1), (6, xi j1)], []⟩) (
 .r 2 1 100 [0, 1, 6, 7] [] <|
 .s (.cn [0, 1, 6, 7] []) <|
 .lp 3 (fun j2 : (Int × Int) => ⟨[(0, .c (.d (.ro 1 p0.length (gT (fInt .u8) p0)))), (1, xi p1), (6, xi j2.1), (7, xi j2.2)], []⟩) (124, 1) fun j2 =>
 .r 3 3 100 [0, 1, 6, 7, 10] [] <|
 .cond 2 (
 .gd ((0 : Int) ≤ ((IntKind.wrap .i64 (16 + (IntKind.wrap .i64 (8 * j2.2)))) : Int) ∧ ((IntKind.wrap .i64 (16 + (IntKind.wrap .i64 (8 * j2.2)))) : Int) ≤ ((IntKind.wrap .i64 (20 + (IntKind.wrap .i64 (8 * j2.2)))) : Int) ∧ ((IntKind.wrap .i64 (20 + (IntKind.wrap .i64 (8 * j2.2)))) : Int) ≤ (p0.length : Int)) fun g1 =>
 .rp 5 9 100 [0, 1, 7, 13, 21] [] (let u1 := (IntKind.wrap .i64 (8 * j2.2)); let u2 := ((IntKind.wrap .i64 (16 + u1)) : Int); let u3 := ((IntKind.wrap .i64 (20 + u1)) : Int); some (((0 : Int) ≤ u2 ∧ u2 ≤ u3 ∧ u3 ≤ (p0.length : Int)))) (ob1 g1) <|
 .s (.imp 21 (.c (.d (.ro 1 (sub p0 (IntKind.wrap .i64 (16 + (IntKind.wrap .i64 (8 * j2.2)))) (IntKind.wrap .i64 (20 + (IntKind.wrap .i64 (8 * j2.2))))).length (gT (fInt .u8) (sub p0 (IntKind.wrap .i64 (16 + (IntKind.wrap .i64 (8 * j2.2)))) (IntKind.wrap .i64 (20 + (IntKind.wrap .i64 (8 * j2.2))))))))) (AImp.c (CImp.sub g1))) <|
 .r 0 0 100 [0, 1, 7, 13, 21] [] <|
 .bind (F_r27_Get (sub p0 (IntKind.wrap .i64 (16 + (IntKind.wrap .i64 (8 * j2.2)))) (IntKind.wrap .i64 (20 + (IntKind.wrap .i64 (8 * j2.2)))))) fun r2 hr2 =>
 .s (.call [] [] (c_r27_Get hr2)) <|
 .r 0 3 100 [0, 1, 6, 7] [] <|
 .r 4 3 100 [0, 1, 6, 7] [] <|
 .lf 1 [0, 1, 6, 7] [] (.inl ((IntKind.wrap .i64 (j2.1 + (IntKind.wrap .i64 (r2)))), (IntKind.wrap .i64 (j2.2 + 1))))
 ) (
 .lf 1 [0, 1, 6] [] (.inr (.inl j2.1))
 )
 ) fun j1 =>
 .gd ((0 : Int) ≤ ((IntKind.wrap .i64 (16 + (IntKind.wrap .i64 (8 * p1)))) : Int) ∧ ((IntKind.wrap .i64 (16 + (IntKind.wrap .i64 (8 * p1)))) : Int) ≤ ((IntKind.wrap .i64 (20 + (IntKind.wrap .i64 (8 * p1)))) : Int) ∧ ((IntKind.wrap .i64 (20 + (IntKind.wrap .i64 (8 * p1)))) : Int) ≤ (p0.length : Int)) fun g3 =>
 .rp 2 9 100 [25, 33] [] (let u1 := (IntKind.wrap .i64 (8 * p1)); let u2 := ((IntKind.wrap .i64 (16 + u1)) : Int); let u3 := ((IntKind.wrap .i64 (20 + u1)) : Int); some (((0 : Int) ≤ u2 ∧ u2 ≤ u3 ∧ u3 ≤ (p0.length : Int)))) (ob1 g3) <|
 .s (.imp 33 (.c (.d (.ro 1 (sub p0 (IntKind.wrap .i64 (16 + (IntKind.wrap .i64 (8 * p1)))) (IntKind.wrap .i64 (20 + (IntKind.wrap .i64 (8 * p1))))).length (gT (fInt .u8) (sub p0 (IntKind.wrap .i64 (16 + (IntKind.wrap .i64 (8 * p1)))) (IntKind.wrap .i64 (20 + (IntKind.wrap .i64 (8 * p1))))))))) (AImp.c (CImp.sub g3))) <|
 .r 0 0 100 [25, 33] [] <|
 .bind (F_r27_Get (sub p0 (IntKind.wrap .i64 (16 + (IntKind.wrap .i64 (8 * p1)))) (IntKind.wrap .i64 (20 + (IntKind.wrap .i64 (8 * p1)))))) fun r4 hr4 =>
 .s (.call [] [] (c_r27_Get hr4)) <|
 .r 0 3 100 [4, 5] [] <|
 .lf 3 [4, 5] [] (j1, (IntKind.wrap .i64 (r4)))
/-- logtide/logtideref27.place -/
theorem c_r27_place {p0 : List Int} {p1 : Int} {r : Int × Int} (h : F_r27_place p0 p1 = some r) : Spec Tryz.prog 58 [.c (.d (.ro 1 p0.length (gT (fInt .u8) p0))), xi p1] [] (.tup [xi r.1, xi r.2]) [] :=
  Cert.spec [] (fun r : Int × Int => .tup [xi r.1, xi r.2]) (fun r => []) (z_r27_place p0 p1) Tryz.func58 rfl (by kernel_rfl) h
end Go.Abs
