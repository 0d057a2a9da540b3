/- DERIVED. Printed by gen.py of this repo. -/
import Derived.Test.YtlhiaclmbegaiaaGreatF1
set_option linter.unusedVariables false
set_option linter.unusedSimpArgs false
set_option maxRecDepth 100000
namespace Go.Abs
open Go.Proofs
noncomputable def F_r12_weight (p0 : Int) : Option (Bool) :=
 gd ((cond (decide (p0 ≥ 1)) (decide (p0 ≤ 5040)) false) = true → (p0 : Int) ≠ 0) (
 some (cond (cond (decide (p0 ≥ 1)) (decide (p0 ≤ 5040)) false) ((Int.tmod 5040 p0) == 0) false))
noncomputable def z_r12_weight (p0 : Int) : Cert Tryz.prog 14 (Bool) :=
 .r 2 1 100 [0] [] <|
 .gd ((cond (decide (p0 ≥ 1)) (decide (p0 ≤ 5040)) false) = true → (p0 : Int) ≠ 0) fun g1 =>
 .rp 4 12 100 [2] [] (let u1 := (cond (decide (p0 ≥ 1)) (decide (p0 ≤ 5040)) false); let u2 := ((decide (p0 ≥ 1)) = true → (decide (p0 ≥ 1)) = true); let u3 := (u1 = true → u1 = true); some ((u2 ∧ (u2 ∧ ((u3 ∧ (u1 = true → (p0 : Int) ≠ 0)) ∧ (u3 ∧ u3)))))) (ob1 (⟨fun h => h, ⟨(fun h => h), ⟨⟨fun h => h, g1⟩, ⟨fun h => h, (fun h => h)⟩⟩⟩⟩)) <|
 .lf 3 [2] [] (cond (cond (decide (p0 ≥ 1)) (decide (p0 ≤ 5040)) false) ((Int.tmod 5040 p0) == 0) false)
/-- logtide/logtideref12.weight -/
theorem c_r12_weight {p0 : Int} {r : Bool} (h : F_r12_weight p0 = some r) : Spec Tryz.prog 95 [xi p0] [] (xb r) [] :=
  Cert.spec [] (fun r : Bool => xb r) (fun r => []) (z_r12_weight p0) Tryz.func95 rfl (by kernel_rfl) h
noncomputable def L_r12_lines_2 (p0 : S_Event) (p1 : Int) (j2 : Int × Int) : Option ((Int × Int) ⊕ ((Unit) ⊕ (Int))) :=
 cond (decide (j2.2 < (p0.Lines.length : Int))) (
 gd ((0 : Int) ≤ j2.2 ∧ j2.2 < (p0.Lines.length : Int)) (
 bd (cond (cond (cond (((p0.Lines.getD (Int.toNat j2.2) default).Offset) != j2.1) true (decide (((p0.Lines.getD (Int.toNat j2.2) default).Length) < 1))) true (decide (((p0.Lines.getD (Int.toNat j2.2) default).Length) > (IntKind.wrap .i64 (p0.To - j2.1))))) true (cond (j2.2 == (IntKind.wrap .i64 ((p0.Lines.length : Int) - 1))) (((p0.Lines.getD (Int.toNat j2.2) default).Length) != (IntKind.wrap .i64 (p0.To - j2.1))) false)) fun x2 =>
 cond x2 (
 some (.inr (.inr (19)))) (
 cond (decide ((((p0.Lines.getD (Int.toNat j2.2) default).Text).size : Int) > p1)) (
 some (.inr (.inr (3)))) (
 some (.inl ((IntKind.wrap .i64 (j2.1 + ((p0.Lines.getD (Int.toNat j2.2) default).Length))), (IntKind.wrap .i64 (j2.2 + 1)))))))) (
 some (.inr (.inl ())))
noncomputable def F_r12_lines (p0 : S_Event) (p1 : Int) : Option (Int) :=
 cond ((p0.Lines.length : Int) == 0) (
 some 9) (
 cond (decide ((p0.Lines.length : Int) > 40)) (
 some 4) (
 bindE (σ := (Unit)) (
 loop (L_r12_lines_2 p0 p1) (p0.From, 0)) fun j1 =>
 some 0))
noncomputable def z_r12_lines (p0 : S_Event) (p1 : Int) : Cert Tryz.prog 74 (Int) :=
 .r 2 2 100 [1, 2] [100] <|
 .r 5 4 101 [1, 2, 11] [100] <|
 .cond 2 (
 .r 2 1 101 [4] [] <|
 .lf 3 [4] [] 9
 ) (
 .r 5 4 101 [1, 2, 15] [100] <|
 .cond 2 (
 .r 2 1 101 [4] [] <|
 .lf 3 [4] [] 4
 ) (
 .r 4 3 101 [1, 2, 5] [100] <|
 .sq 2 (fun j1 : (Unit) => ⟨[], []⟩) (
 .r 2 1 101 [1, 2, 5, 6] [100] <|
 .s (.cn [1, 2, 5, 6] [100]) <|
 .lp 3 (fun j2 : (Int × Int) => ⟨[(1, xi p1), (2, .c (.np 100 10 0 0)), (5, xi j2.1), (6, xi j2.2)], [(100, .box 67 (bS_Event p0))]⟩) (p0.From, 0) fun j2 =>
 .r 3 5 101 [1, 2, 5, 6, 22] [100] <|
 .cond 2 (
 .gd ((0 : Int) ≤ j2.2 ∧ j2.2 < (p0.Lines.length : Int)) fun g1 =>
 .rp 6 7 101 [1, 2, 5, 6, 7] [100, 101] (some (((0 : Int) ≤ j2.2 ∧ j2.2 < (p0.Lines.length : Int)))) (ob1 g1) <|
 .rp 5 35 102 [1, 2, 5, 6, 7, 64] [100, 101] (let u8 := (p0.Lines.getD (Int.toNat j2.2) default); let u4 := ((u8.Offset) != j2.1); let u2 := (cond u4 true (decide ((u8.Length) < 1))); let u1 := (cond u2 true (decide ((u8.Length) > (IntKind.wrap .i64 (p0.To - j2.1))))); let u5 := ((!u1) = true → (!u1) = true); let u6 := ((!u2) = true → (!u2) = true); let u9 := (j2.2 == (IntKind.wrap .i64 ((p0.Lines.length : Int) - 1))); let u3 := ((!u1) && u9); let u7 := (u3 = true → u3 = true); some ((((!u4) = true → (!u4) = true) ∧ (((!u4) = true → (!u4) = true) ∧ ((u4 = false → (!u4) = true) ∧ (u6 ∧ (u6 ∧ ((u6 ∧ u6) ∧ ((u6 ∧ u6) ∧ ((u2 = false → (!u2) = true) ∧ (u5 ∧ (u5 ∧ (u5 ∧ ((u5 ∧ u5) ∧ (u5 ∧ (u7 ∧ (u7 ∧ ((u7 ∧ u7) ∧ ((u7 ∧ u7) ∧ ((u5 ∧ ((!u1) = true → u9 = true → u3 = true)) ∧ (u1 = false → (!u1) = true))))))))))))))))))))) (ob1 (⟨fun h => h, ⟨fun h => h, ⟨(fun h => by rw [h]; rfl), ⟨fun h => h, ⟨fun h => h, ⟨⟨fun h => h, fun h => h⟩, ⟨⟨fun h => h, fun h => h⟩, ⟨(fun h => by rw [h]; rfl), ⟨fun h => h, ⟨fun h => h, ⟨fun h => h, ⟨⟨fun h => h, fun h => h⟩, ⟨fun h => h, ⟨fun h => h, ⟨fun h => h, ⟨⟨fun h => h, fun h => h⟩, ⟨⟨fun h => h, fun h => h⟩, ⟨⟨fun h => h, (fun h1 h2 => by rw [h1, h2]; rfl)⟩, (fun h => by rw [h]; rfl)⟩⟩⟩⟩⟩⟩⟩⟩⟩⟩⟩⟩⟩⟩⟩⟩⟩⟩)) <|
 .bs ((cond (cond (cond (((p0.Lines.getD (Int.toNat j2.2) default).Offset) != j2.1) true (decide (((p0.Lines.getD (Int.toNat j2.2) default).Length) < 1))) true (decide (((p0.Lines.getD (Int.toNat j2.2) default).Length) > (IntKind.wrap .i64 (p0.To - j2.1))))) true (cond (j2.2 == (IntKind.wrap .i64 ((p0.Lines.length : Int) - 1))) (((p0.Lines.getD (Int.toNat j2.2) default).Length) != (IntKind.wrap .i64 (p0.To - j2.1))) false))) [64] xb fun x2 =>
 .cond 2 (
 .r 2 1 102 [4] [] <|
 .lf 3 [4] [] (.inr (.inr (19)))
 ) (
 .r 5 5 102 [1, 2, 5, 6, 7, 69] [100, 101] <|
 .cond 2 (
 .r 2 1 102 [4] [] <|
 .lf 3 [4] [] (.inr (.inr (3)))
 ) (
 .r 3 5 102 [1, 2, 5, 6] [100] <|
 .r 4 3 102 [1, 2, 5, 6] [100] <|
 .lf 1 [1, 2, 5, 6] [100] (.inl ((IntKind.wrap .i64 (j2.1 + ((p0.Lines.getD (Int.toNat j2.2) default).Length))), (IntKind.wrap .i64 (j2.2 + 1))))
 )
 )
 ) (
 .lf 1 [] [] (.inr (.inl ()))
 )
 ) fun j1 =>
 .r 2 1 102 [4] [] <|
 .lf 3 [4] [] 0
 )
 )
/-- logtide/logtideref12.lines -/
theorem c_r12_lines {p0 : S_Event} {p1 : Int} {r : Int} (h : F_r12_lines p0 p1 = some r) : Spec Tryz.prog 96 [.agg (bS_Event p0), xi p1] [] (xi r) [] :=
  Cert.spec [] (fun r : Int => xi r) (fun r => []) (z_r12_lines p0 p1) Tryz.func96 rfl (by kernel_rfl) h
noncomputable def F_r01_Letter (p0 : Int) : Option (Bool) :=
 bd (cond (cond (decide (p0 ≥ 97)) (decide (p0 ≤ 122)) false) true (cond (decide (p0 ≥ 65)) (decide (p0 ≤ 90)) false)) fun x1 =>
 some x1
noncomputable def z_r01_Letter (p0 : Int) : Cert Tryz.prog 17 (Bool) :=
 .r 2 1 100 [0] [] <|
 .rp 4 15 100 [2] [] (let u1 := (cond (decide (p0 ≥ 97)) (decide (p0 ≤ 122)) false); let u2 := ((decide (p0 ≥ 97)) = true → (decide (p0 ≥ 97)) = true); let u3 := ((!u1) = true → (!u1) = true); let u4 := ((!u1) && (decide (p0 ≥ 65))); some ((u2 ∧ (u2 ∧ (u3 ∧ (u3 ∧ ((u4 = true → u4 = true) ∧ ((u3 ∧ ((!u1) = true → (decide (p0 ≥ 65)) = true → u4 = true)) ∧ (u1 = false → (!u1) = true))))))))) (ob1 (⟨fun h => h, ⟨(fun h => h), ⟨fun h => h, ⟨fun h => h, ⟨fun h => h, ⟨⟨fun h => h, (fun h1 h2 => by rw [h1, h2]; rfl)⟩, (fun h => by rw [h]; rfl)⟩⟩⟩⟩⟩⟩)) <|
 .bs ((cond (cond (decide (p0 ≥ 97)) (decide (p0 ≤ 122)) false) true (cond (decide (p0 ≥ 65)) (decide (p0 ≤ 90)) false))) [2] xb fun x1 =>
 .lf 3 [2] [] x1
/-- logtide/logtideref01.Letter -/
theorem c_r01_Letter {p0 : Int} {r : Bool} (h : F_r01_Letter p0 = some r) : Spec Tryz.prog 127 [.c (.d (.v (.int .u8 p0)))] [] (xb r) [] :=
  Cert.spec [] (fun r : Bool => xb r) (fun r => []) (z_r01_Letter p0) Tryz.func127 rfl (by kernel_rfl) h
noncomputable def F_r01_Digit (p0 : Int) : Option (Bool) :=
 some (cond (decide (p0 ≥ 48)) (decide (p0 ≤ 57)) false)
noncomputable def z_r01_Digit (p0 : Int) : Cert Tryz.prog 9 (Bool) :=
 .r 2 1 100 [0] [] <|
 .rp 4 7 100 [2] [] (some ((((decide (p0 ≥ 48)) = true → (decide (p0 ≥ 48)) = true) ∧ ((decide (p0 ≥ 48)) = true → (decide (p0 ≥ 48)) = true)))) (ob1 (⟨fun h => h, (fun h => h)⟩)) <|
 .lf 3 [2] [] (cond (decide (p0 ≥ 48)) (decide (p0 ≤ 57)) false)
/-- logtide/logtideref01.Digit -/
theorem c_r01_Digit {p0 : Int} {r : Bool} (h : F_r01_Digit p0 = some r) : Spec Tryz.prog 135 [.c (.d (.v (.int .u8 p0)))] [] (xb r) [] :=
  Cert.spec [] (fun r : Bool => xb r) (fun r => []) (z_r01_Digit p0) Tryz.func135 rfl (by kernel_rfl) h
noncomputable def F_r01_Word (p0 : Int) : Option (Bool) :=
 bnd (F_r01_Digit p0) fun r1 =>
 bnd (cond (!r1) (F_r01_Letter p0) (some (false))) fun r2 =>
 some (cond (cond r1 true r2) true (p0 == 95))
noncomputable def z_r01_Word (p0 : Int) : Cert Tryz.prog 13 (Bool) :=
 .r 2 1 100 [0] [] <|
 .r 4 1 100 [0, 3] [] <|
 .bind (F_r01_Digit p0) fun r1 hr1 =>
 .s (.call [] [] (c_r01_Digit hr1)) <|
 .r 0 2 100 [0, 5, 6] [] <|
 .callG (!r1) (F_r01_Letter p0) (false) [] (some (((!r1) = true → (!r1) = true))) (ob1 (fun h => h)) (fun r h => (c_r01_Letter h)) fun r2 =>
 .rp 0 6 100 [2] [] (let u1 := (!(cond r1 true r2)); some (((r1 = false → (!r1) = true) ∧ ((u1 = true → u1 = true) ∧ ((cond r1 true r2) = false → u1 = true))))) (ob1 (⟨(fun h => by rw [h]; rfl), ⟨fun h => h, (fun h => by rw [h]; rfl)⟩⟩)) <|
 .lf 3 [2] [] (cond (cond r1 true r2) true (p0 == 95))
/-- logtide/logtideref01.Word -/
theorem c_r01_Word {p0 : Int} {r : Bool} (h : F_r01_Word p0 = some r) : Spec Tryz.prog 128 [.c (.d (.v (.int .u8 p0)))] [] (xb r) [] :=
  Cert.spec [] (fun r : Bool => xb r) (fun r => []) (z_r01_Word p0) Tryz.func128 rfl (by kernel_rfl) h
noncomputable def L_r11_FieldName_2 (p0 : ByteArray) (j2 : Int) : Option ((Int) ⊕ ((Unit) ⊕ (Bool))) :=
 cond (decide (j2 < (p0.size : Int))) (
 gd ((0 : Int) ≤ j2 ∧ j2 < (p0.size : Int)) (
 bnd (F_r01_Word (bt p0 j2)) fun r6 =>
 gd ((!r6) = true → (0 : Int) ≤ j2 ∧ j2 < (p0.size : Int)) (
 cond (cond (!r6) ((bt p0 j2) != 46) false) (
 some (.inr (.inr (false)))) (
 some (.inl (IntKind.wrap .i64 (j2 + 1))))))) (
 some (.inr (.inl ())))
noncomputable def F_r11_FieldName (p0 : ByteArray) : Option (Bool) :=
 gd ((!(cond (decide ((p0.size : Int) < 1)) true (decide ((p0.size : Int) > 32)))) = true → (0 : Int) ≤ 0 ∧ 0 < (p0.size : Int)) (
 bnd (cond (!(cond (decide ((p0.size : Int) < 1)) true (decide ((p0.size : Int) > 32)))) (F_r01_Letter (bt p0 0)) (some (false))) fun r2 =>
 gd (((!(cond (decide ((p0.size : Int) < 1)) true (decide ((p0.size : Int) > 32)))) && (!r2)) = true → (0 : Int) ≤ 0 ∧ 0 < (p0.size : Int)) (
 bd (cond (cond (decide ((p0.size : Int) < 1)) true (decide ((p0.size : Int) > 32))) true (cond (!r2) ((bt p0 0) != 95) false)) fun x4 =>
 cond x4 (
 some false) (
 bindE (σ := (Unit)) (
 loop (L_r11_FieldName_2 p0) 0) fun j1 =>
 some true)))
noncomputable def z_r11_FieldName (p0 : ByteArray) : Cert Tryz.prog 40 (Bool) :=
 .r 2 1 100 [0] [] <|
 .gd ((!(cond (decide ((p0.size : Int) < 1)) true (decide ((p0.size : Int) > 32)))) = true → (0 : Int) ≤ 0 ∧ 0 < (p0.size : Int)) fun g1 =>
 .rp 5 11 100 [0, 12, 14] [] (let u1 := (decide ((p0.size : Int) < 1)); let u2 := (!(cond u1 true (decide ((p0.size : Int) > 32)))); some ((((!u1) = true → (!u1) = true) ∧ (((!u1) = true → (!u1) = true) ∧ ((u1 = false → (!u1) = true) ∧ ((u2 = true → u2 = true) ∧ (u2 = true → (0 : Int) ≤ 0 ∧ 0 < (p0.size : Int)))))))) (ob1 (⟨fun h => h, ⟨fun h => h, ⟨(fun h => by rw [h]; rfl), ⟨fun h => h, g1⟩⟩⟩⟩)) <|
 .callG (!(cond (decide ((p0.size : Int) < 1)) true (decide ((p0.size : Int) > 32)))) (F_r01_Letter (bt p0 0)) (false) [] (let u1 := (!(cond (decide ((p0.size : Int) < 1)) true (decide ((p0.size : Int) > 32)))); some ((u1 = true → u1 = true))) (ob1 (fun h => h)) (fun r h => (c_r01_Letter h)) fun r2 =>
 .gd (((!(cond (decide ((p0.size : Int) < 1)) true (decide ((p0.size : Int) > 32)))) && (!r2)) = true → (0 : Int) ≤ 0 ∧ 0 < (p0.size : Int)) fun g3 =>
 .rp 0 7 100 [0, 22] [] (let u1 := (cond (decide ((p0.size : Int) < 1)) true (decide ((p0.size : Int) > 32))); let u2 := ((!u1) = true → (!u1) = true); let u3 := (((!u1) && (!r2)) = true → ((!u1) && (!r2)) = true); some ((u2 ∧ (u2 ∧ ((u3 ∧ (((!u1) && (!r2)) = true → (0 : Int) ≤ 0 ∧ 0 < (p0.size : Int))) ∧ (u3 ∧ ((u2 ∧ ((!u1) = true → (!r2) = true → ((!u1) && (!r2)) = true)) ∧ (u1 = false → (!u1) = true)))))))) (ob1 (⟨fun h => h, ⟨fun h => h, ⟨⟨fun h => h, g3⟩, ⟨fun h => h, ⟨⟨fun h => h, (fun h1 h2 => by rw [h1, h2]; rfl)⟩, (fun h => by rw [h]; rfl)⟩⟩⟩⟩⟩)) <|
 .bs ((cond (cond (decide ((p0.size : Int) < 1)) true (decide ((p0.size : Int) > 32))) true (cond (!r2) ((bt p0 0) != 95) false))) [22] xb fun x4 =>
 .cond 2 (
 .r 2 1 100 [2] [] <|
 .lf 3 [2] [] false
 ) (
 .sq 2 (fun j1 : (Unit) => ⟨[], []⟩) (
 .r 2 1 100 [0, 3] [] <|
 .s (.cn [0, 3] []) <|
 .lp 3 (fun j2 : (Int) => ⟨[(0, xs p0), (3, xi j2)], []⟩) 0 fun j2 =>
 .r 3 4 100 [0, 3, 26] [] <|
 .cond 2 (
 .gd ((0 : Int) ≤ j2 ∧ j2 < (p0.size : Int)) fun g5 =>
 .rp 6 3 100 [0, 3, 31] [] (some (((0 : Int) ≤ j2 ∧ j2 < (p0.size : Int)))) (ob1 g5) <|
 .bind (F_r01_Word (bt p0 j2)) fun r6 hr6 =>
 .s (.call [] [] (c_r01_Word hr6)) <|
 .gd ((!r6) = true → (0 : Int) ≤ j2 ∧ j2 < (p0.size : Int)) fun g7 =>
 .rp 0 7 100 [0, 3, 39] [] (let u1 := ((!r6) = true → (!r6) = true); some ((((u1 ∧ u1) ∧ ((!r6) = true → (0 : Int) ≤ j2 ∧ j2 < (p0.size : Int))) ∧ (u1 ∧ u1)))) (ob1 (⟨⟨⟨fun h => h, fun h => h⟩, g7⟩, ⟨fun h => h, (fun h => h)⟩⟩)) <|
 .cond 2 (
 .r 2 1 100 [2] [] <|
 .lf 3 [2] [] (.inr (.inr (false)))
 ) (
 .r 4 3 100 [0, 3] [] <|
 .lf 1 [0, 3] [] (.inl (IntKind.wrap .i64 (j2 + 1)))
 )
 ) (
 .lf 1 [] [] (.inr (.inl ()))
 )
 ) fun j1 =>
 .r 2 1 100 [2] [] <|
 .lf 3 [2] [] true
 )
/-- logtide/logtideref11.FieldName -/
theorem c_r11_FieldName {p0 : ByteArray} {r : Bool} (h : F_r11_FieldName p0 = some r) : Spec Tryz.prog 115 [xs p0] [] (xb r) [] :=
  Cert.spec [] (fun r : Bool => xb r) (fun r => []) (z_r11_FieldName p0) Tryz.func115 rfl (by kernel_rfl) h
noncomputable def L_r11_Sort_2 (p0 : List S_Field) (j2 : Int) : Option ((Int) ⊕ ((Unit) ⊕ (List S_Field × Int))) :=
 cond (decide (j2 < (p0.length : Int))) (
 gd ((0 : Int) ≤ j2 ∧ j2 < (p0.length : Int)) (
 bnd (F_r11_FieldName ((p0.getD (Int.toNat j2) default).Name)) fun r2 =>
 cond (!r2) (
 some (.inr (.inr ((([] : List S_Field), 6))))) (
 some (.inl (IntKind.wrap .i64 (j2 + 1)))))) (
 some (.inr (.inl ())))
noncomputable def L_r11_Sort_6 (j4 : Int × List S_Field) (p0 : List S_Field) (j6 : Int × List S_Field) : Option ((Int × List S_Field) ⊕ ((Int × List S_Field) ⊕ ((Int × List S_Field) ⊕ ((List S_Field) ⊕ (List S_Field × Int))))) :=
 gd ((decide (j6.1 > 0)) = true → (0 : Int) ≤ (IntKind.wrap .i64 (j6.1 - 1)) ∧ (IntKind.wrap .i64 (j6.1 - 1)) < (j6.2.length : Int)) (
 gd ((decide (j6.1 > 0)) = true → (0 : Int) ≤ j4.1 ∧ j4.1 < (p0.length : Int)) (
 bd (cond (decide (j6.1 > 0)) (!((Op.bytesLess ((j6.2.getD (Int.toNat (IntKind.wrap .i64 (j6.1 - 1))) default).Name).toList ((p0.getD (Int.toNat j4.1) default).Name).toList) || (((j6.2.getD (Int.toNat (IntKind.wrap .i64 (j6.1 - 1))) default).Name).toList == ((p0.getD (Int.toNat j4.1) default).Name).toList))) false) fun x7 =>
 cond x7 (
 gd ((0 : Int) ≤ (IntKind.wrap .i64 (j6.1 - 1)) ∧ (IntKind.wrap .i64 (j6.1 - 1)) < (j6.2.length : Int)) (
 gd ((0 : Int) ≤ j6.1 ∧ j6.1 < (j6.2.length : Int)) (
 some (.inl ((IntKind.wrap .i64 (j6.1 - 1)), (j6.2.set (Int.toNat j6.1) (j6.2.getD (Int.toNat (IntKind.wrap .i64 (j6.1 - 1))) default))))))) (
 some (.inr (.inl (j6.1, j6.2))))))
noncomputable def L_r11_Sort_4 (p0 : List S_Field) (j4 : Int × List S_Field) : Option ((Int × List S_Field) ⊕ ((List S_Field) ⊕ (List S_Field × Int))) :=
 cond (decide (j4.1 < (p0.length : Int))) (
 gd ((0 : Int) ≤ j4.1 ∧ j4.1 < (p0.length : Int)) (
 gd ((j4.2.length + 1) * 32 ≤ 140737488355328) (
 bindE (σ := (Int × List S_Field)) (
 loop (L_r11_Sort_6 j4 p0) ((j4.2.length : Int), (j4.2 ++ [(p0.getD (Int.toNat j4.1) default)]))) fun j5 =>
 gd ((0 : Int) ≤ j5.1 ∧ j5.1 < (j5.2.length : Int)) (
 gd ((decide (j5.1 > 0)) = true → (0 : Int) ≤ (IntKind.wrap .i64 (j5.1 - 1)) ∧ (IntKind.wrap .i64 (j5.1 - 1)) < ((j5.2.set (Int.toNat j5.1) (p0.getD (Int.toNat j4.1) default)).length : Int)) (
 gd ((decide (j5.1 > 0)) = true → (0 : Int) ≤ j4.1 ∧ j4.1 < (p0.length : Int)) (
 bd (cond (decide (j5.1 > 0)) ((((j5.2.set (Int.toNat j5.1) (p0.getD (Int.toNat j4.1) default)).getD (Int.toNat (IntKind.wrap .i64 (j5.1 - 1))) default).Name).toList == ((p0.getD (Int.toNat j4.1) default).Name).toList) false) fun x13 =>
 cond x13 (
 some (.inr (.inr ((([] : List S_Field), 7))))) (
 some (.inl ((IntKind.wrap .i64 (j4.1 + 1)), (j5.2.set (Int.toNat j5.1) (p0.getD (Int.toNat j4.1) default))))))))))) (
 some (.inr (.inl j4.2)))
noncomputable def F_r11_Sort (p0 : List S_Field) : Option (List S_Field × Int) :=
 cond (decide ((p0.length : Int) > 32)) (
 some (([] : List S_Field), 4)) (
 bindE (σ := (Unit)) (
 loop (L_r11_Sort_2 p0) 0) fun j1 =>
 bindE (σ := (List S_Field)) (
 loop (L_r11_Sort_4 p0) (0, ([] : List S_Field))) fun j3 =>
 some (j3, 0))
noncomputable def z_r11_Sort (p0 : List S_Field) : Cert Tryz.prog 89 (List S_Field × Int) :=
 .r 2 2 100 [0] [] <|
 .r 5 3 100 [0, 10] [] <|
 .cond 2 (
 .r 2 2 100 [2, 3] [] <|
 .s (.own 2 100 154 2 (gT fS_Field [])) <|
 .s (.rn 100 900) <|
 .lf 3 [2, 3] [900] (([] : List S_Field), 4)
 ) (
 .sq 2 (fun j1 : (Unit) => ⟨[(0, .c (.d (.ro 2 p0.length (gT fS_Field p0))))], []⟩) (
 .r 2 1 101 [0, 4] [] <|
 .s (.cn [0, 4] []) <|
 .lp 3 (fun j2 : (Int) => ⟨[(0, .c (.d (.ro 2 p0.length (gT fS_Field p0)))), (4, xi j2)], []⟩) 0 fun j2 =>
 .r 3 4 101 [0, 4, 14] [] <|
 .cond 2 (
 .gd ((0 : Int) ≤ j2 ∧ j2 < (p0.length : Int)) fun g1 =>
 .rp 6 5 101 [0, 4, 21] [] (some (((0 : Int) ≤ j2 ∧ j2 < (p0.length : Int)))) (ob1 g1) <|
 .bind (F_r11_FieldName ((p0.getD (Int.toNat j2) default).Name)) fun r2 hr2 =>
 .s (.call [] [] (c_r11_FieldName hr2)) <|
 .r 0 1 101 [0, 4, 23] [] <|
 .cond 2 (
 .r 2 2 101 [2, 3] [] <|
 .s (.own 2 101 154 2 (gT fS_Field [])) <|
 .s (.rn 101 900) <|
 .lf 3 [2, 3] [900] (.inr (.inr ((([] : List S_Field), 6))))
 ) (
 .r 4 3 102 [0, 4] [] <|
 .lf 1 [0, 4] [] (.inl (IntKind.wrap .i64 (j2 + 1)))
 )
 ) (
 .lf 1 [0] [] (.inr (.inl ()))
 )
 ) fun j1 =>
 .r 2 1 102 [0, 5] [] <|
 .sq 2 (fun j3 : (List S_Field) => ⟨[(5, .c (.nm 102))], [(102, .rows 154 2 j3.length (gT fS_Field j3))]⟩) (
 .r 2 1 102 [0, 5, 6] [] <|
 .s (.own 5 102 154 2 (gT fS_Field [])) <|
 .s (.cn [0, 5, 6] [102]) <|
 .lp 3 (fun j4 : (Int × List S_Field) => ⟨[(0, .c (.d (.ro 2 p0.length (gT fS_Field p0)))), (5, .c (.nm 102)), (6, xi j4.1)], [(102, .rows 154 2 j4.2.length (gT fS_Field j4.2))]⟩) (0, ([] : List S_Field)) fun j4 =>
 .r 3 4 103 [0, 5, 6, 27] [102] <|
 .cond 2 (
 .r 6 3 103 [0, 5, 6, 7] [102] <|
 .gd ((0 : Int) ≤ j4.1 ∧ j4.1 < (p0.length : Int)) fun g3 =>
 .rp 4 6 103 [0, 6, 7, 32, 37] [102] (some (((0 : Int) ≤ j4.1 ∧ j4.1 < (p0.length : Int)))) (ob1 g3) <|
 .gd ((j4.2.length + 1) * 32 ≤ 140737488355328) fun g4 =>
 .s (.app1 fS_Field (j4.2) (p0.getD (Int.toNat j4.1) default) (gT fS_Field j4.2) (.inr rfl) 154 2 32 103 g4) <|
 .r 0 1 104 [0, 5, 6, 7] [103] <|
 .sq 2 (fun j5 : (Int × List S_Field) => ⟨[(0, .c (.d (.ro 2 p0.length (gT fS_Field p0)))), (5, .c (.nm 103)), (6, xi j4.1), (7, xi j5.1)], [(103, .rows 154 2 j5.2.length (gT fS_Field j5.2))]⟩) (
 .s (.cn [0, 5, 6, 7] [103]) <|
 .lp 1 (fun j6 : (Int × List S_Field) => ⟨[(0, .c (.d (.ro 2 p0.length (gT fS_Field p0)))), (5, .c (.nm 103)), (6, xi j4.1), (7, xi j6.1)], [(103, .rows 154 2 j6.2.length (gT fS_Field j6.2))]⟩) ((j4.2.length : Int), (j4.2 ++ [(p0.getD (Int.toNat j4.1) default)])) fun j6 =>
 .s (.cn [0, 5, 6, 7] [103]) <|
 .gd ((decide (j6.1 > 0)) = true → (0 : Int) ≤ (IntKind.wrap .i64 (j6.1 - 1)) ∧ (IntKind.wrap .i64 (j6.1 - 1)) < (j6.2.length : Int)) fun g5 =>
 .gd ((decide (j6.1 > 0)) = true → (0 : Int) ≤ j4.1 ∧ j4.1 < (p0.length : Int)) fun g6 =>
 .m 2 <|
 .s (.dr [] (let u1 := ((decide (j6.1 > 0)) = true → (decide (j6.1 > 0)) = true); let u2 := (IntKind.wrap .i64 (j6.1 - 1)); [(5, some (u1)), (6, some (((u1 ∧ u1) ∧ ((decide (j6.1 > 0)) = true → (0 : Int) ≤ u2 ∧ u2 < (j6.2.length : Int))))), (7, some (u1)), (8, some ((u1 ∧ ((decide (j6.1 > 0)) = true → (Int.toNat u2) < j6.2.length)))), (11, some (((u1 ∧ u1) ∧ ((decide (j6.1 > 0)) = true → (0 : Int) ≤ j4.1 ∧ j4.1 < (p0.length : Int))))), (12, some (u1)), (13, some (u1)), (14, some ((u1 ∧ u1))), (15, some (u1))]) (obsAll.cons (ob1 (fun h => h)) (obsAll.cons (ob1 (⟨⟨fun h => h, fun h => h⟩, g5⟩)) (obsAll.cons (ob1 (fun h => h)) (obsAll.cons (ob1 (⟨fun h => h, (fun hg => tn (g5 hg))⟩)) (obsAll.cons (ob1 (⟨⟨fun h => h, fun h => h⟩, g6⟩)) (obsAll.cons (ob1 (fun h => h)) (obsAll.cons (ob1 (fun h => h)) (obsAll.cons (ob1 (⟨fun h => h, fun h => h⟩)) (obsAll.cons (ob1 (fun h => h)) obsAll.nil))))))))) [0, 5, 6, 7, 54] [103]) <|
 .bs ((cond (decide (j6.1 > 0)) (!((Op.bytesLess ((j6.2.getD (Int.toNat (IntKind.wrap .i64 (j6.1 - 1))) default).Name).toList ((p0.getD (Int.toNat j4.1) default).Name).toList) || (((j6.2.getD (Int.toNat (IntKind.wrap .i64 (j6.1 - 1))) default).Name).toList == ((p0.getD (Int.toNat j4.1) default).Name).toList))) false)) [54] xb fun x7 =>
 .cond 2 (
 .gd ((0 : Int) ≤ (IntKind.wrap .i64 (j6.1 - 1)) ∧ (IntKind.wrap .i64 (j6.1 - 1)) < (j6.2.length : Int)) fun g8 =>
 .gd ((0 : Int) ≤ j6.1 ∧ j6.1 < (j6.2.length : Int)) fun g9 =>
 .rp 5 8 104 [0, 5, 6, 7, 61, 62] [103] (let u1 := (IntKind.wrap .i64 (j6.1 - 1)); some ((((0 : Int) ≤ u1 ∧ u1 < (j6.2.length : Int)) ∧ (((Int.toNat u1) < j6.2.length) ∧ ((0 : Int) ≤ j6.1 ∧ j6.1 < (j6.2.length : Int)))))) (ob1 (⟨g8, ⟨(tn g8), g9⟩⟩)) <|
 .s (.stR fS_Field j6.2 103 154 2 (Int.toNat j6.1) 0 (j6.2.getD (Int.toNat (IntKind.wrap .i64 (j6.1 - 1))) default) (tn g9)) <|
 .r 0 0 104 [0, 5, 6, 7] [103] <|
 .r 3 3 104 [0, 5, 6, 7] [103] <|
 .lf 1 [0, 5, 6, 7] [103] (.inl ((IntKind.wrap .i64 (j6.1 - 1)), (j6.2.set (Int.toNat j6.1) (j6.2.getD (Int.toNat (IntKind.wrap .i64 (j6.1 - 1))) default))))
 ) (
 .lf 1 [0, 5, 6, 7] [103] (.inr (.inl (j6.1, j6.2)))
 )
 ) fun j5 =>
 .gd ((0 : Int) ≤ j5.1 ∧ j5.1 < (j5.2.length : Int)) fun g10 =>
 .rp 2 7 104 [0, 5, 6, 7, 70, 71] [103] (some ((((0 : Int) ≤ j4.1 ∧ j4.1 < (p0.length : Int)) ∧ ((0 : Int) ≤ j5.1 ∧ j5.1 < (j5.2.length : Int))))) (ob1 (⟨g3, g10⟩)) <|
 .s (.stR fS_Field j5.2 103 154 2 (Int.toNat j5.1) 0 (p0.getD (Int.toNat j4.1) default) (tn g10)) <|
 .r 0 0 104 [0, 5, 6, 7] [103] <|
 .s (.cn [0, 5, 6, 7] [103]) <|
 .gd ((decide (j5.1 > 0)) = true → (0 : Int) ≤ (IntKind.wrap .i64 (j5.1 - 1)) ∧ (IntKind.wrap .i64 (j5.1 - 1)) < ((j5.2.set (Int.toNat j5.1) (p0.getD (Int.toNat j4.1) default)).length : Int)) fun g11 =>
 .gd ((decide (j5.1 > 0)) = true → (0 : Int) ≤ j4.1 ∧ j4.1 < (p0.length : Int)) fun g12 =>
 .m 3 <|
 .s (.dr [] (let u1 := ((decide (j5.1 > 0)) = true → (decide (j5.1 > 0)) = true); let u2 := (j5.2.set (Int.toNat j5.1) (p0.getD (Int.toNat j4.1) default)); let u3 := (IntKind.wrap .i64 (j5.1 - 1)); [(5, some (u1)), (6, some (((u1 ∧ u1) ∧ ((decide (j5.1 > 0)) = true → (0 : Int) ≤ u3 ∧ u3 < (u2.length : Int))))), (7, some (u1)), (8, some ((u1 ∧ ((decide (j5.1 > 0)) = true → (Int.toNat u3) < u2.length)))), (11, some (((u1 ∧ u1) ∧ ((decide (j5.1 > 0)) = true → (0 : Int) ≤ j4.1 ∧ j4.1 < (p0.length : Int))))), (12, some (u1)), (13, some (u1)), (14, some ((u1 ∧ u1))), (15, some (u1))]) (obsAll.cons (ob1 (fun h => h)) (obsAll.cons (ob1 (⟨⟨fun h => h, fun h => h⟩, g11⟩)) (obsAll.cons (ob1 (fun h => h)) (obsAll.cons (ob1 (⟨fun h => h, (fun hg => tn (g11 hg))⟩)) (obsAll.cons (ob1 (⟨⟨fun h => h, fun h => h⟩, g12⟩)) (obsAll.cons (ob1 (fun h => h)) (obsAll.cons (ob1 (fun h => h)) (obsAll.cons (ob1 (⟨fun h => h, fun h => h⟩)) (obsAll.cons (ob1 (fun h => h)) obsAll.nil))))))))) [0, 5, 6, 87] [103]) <|
 .bs ((cond (decide (j5.1 > 0)) ((((j5.2.set (Int.toNat j5.1) (p0.getD (Int.toNat j4.1) default)).getD (Int.toNat (IntKind.wrap .i64 (j5.1 - 1))) default).Name).toList == ((p0.getD (Int.toNat j4.1) default).Name).toList) false)) [87] xb fun x13 =>
 .cond 2 (
 .r 2 2 104 [2, 3] [] <|
 .s (.own 2 104 154 2 (gT fS_Field [])) <|
 .s (.rn 104 900) <|
 .lf 3 [2, 3] [900] (.inr (.inr ((([] : List S_Field), 7))))
 ) (
 .r 4 3 105 [0, 5, 6] [103] <|
 .s (.cn [0, 5, 6] [103]) <|
 .s (.rn 103 102) <|
 .lf 1 [0, 5, 6] [102] (.inl ((IntKind.wrap .i64 (j4.1 + 1)), (j5.2.set (Int.toNat j5.1) (p0.getD (Int.toNat j4.1) default))))
 )
 ) (
 .lf 1 [5] [102] (.inr (.inl j4.2))
 )
 ) fun j3 =>
 .r 2 3 105 [2, 3] [102] <|
 .s (.rn 102 900) <|
 .lf 3 [2, 3] [900] (j3, 0)
 )
/-- logtide/logtideref11.Sort -/
theorem c_r11_Sort {p0 : List S_Field} {r : List S_Field × Int} (h : F_r11_Sort p0 = some r) : Spec Tryz.prog 97 [.c (.d (.ro 2 p0.length (gT fS_Field p0)))] [] (.tup [.c (.nm 900), xi r.2]) [(900, .rows 154 2 r.1.length (gT fS_Field r.1))] :=
  Cert.spec [900] (fun r : List S_Field × Int => .tup [.c (.nm 900), xi r.2]) (fun r => [(900, .rows 154 2 r.1.length (gT fS_Field r.1))]) (z_r11_Sort p0) Tryz.func97 rfl (by kernel_rfl) h
noncomputable def L_r11_Same_2 (p0 : List S_Field) (p1 : List S_Field) (j2 : Int) : Option ((Int) ⊕ ((Unit) ⊕ (Bool))) :=
 cond (decide (j2 < (p0.length : Int))) (
 gd ((0 : Int) ≤ j2 ∧ j2 < (p0.length : Int)) (
 gd ((0 : Int) ≤ j2 ∧ j2 < (p1.length : Int)) (
 bd (!(((p0.getD (Int.toNat j2) default).Name.toList == (p1.getD (Int.toNat j2) default).Name.toList) && (((p0.getD (Int.toNat j2) default).Value.toList == (p1.getD (Int.toNat j2) default).Value.toList) && true))) fun x3 =>
 cond x3 (
 some (.inr (.inr (false)))) (
 some (.inl (IntKind.wrap .i64 (j2 + 1))))))) (
 some (.inr (.inl ())))
noncomputable def F_r11_Same (p0 : List S_Field) (p1 : List S_Field) : Option (Bool) :=
 cond ((p0.length : Int) != (p1.length : Int)) (
 some false) (
 bindE (σ := (Unit)) (
 loop (L_r11_Same_2 p0 p1) 0) fun j1 =>
 some true)
noncomputable def z_r11_Same (p0 : List S_Field) (p1 : List S_Field) : Cert Tryz.prog 26 (Bool) :=
 .r 2 1 100 [0, 1] [] <|
 .r 5 5 100 [0, 1, 10] [] <|
 .cond 2 (
 .r 2 1 100 [4] [] <|
 .lf 3 [4] [] false
 ) (
 .sq 2 (fun j1 : (Unit) => ⟨[], []⟩) (
 .r 2 1 100 [0, 1, 5] [] <|
 .s (.cn [0, 1, 5] []) <|
 .lp 3 (fun j2 : (Int) => ⟨[(0, .c (.d (.ro 2 p0.length (gT fS_Field p0)))), (1, .c (.d (.ro 2 p1.length (gT fS_Field p1)))), (5, xi j2)], []⟩) 0 fun j2 =>
 .r 3 4 100 [0, 1, 5, 14] [] <|
 .cond 2 (
 .s (.cn [0, 1, 5] []) <|
 .gd ((0 : Int) ≤ j2 ∧ j2 < (p0.length : Int)) fun g1 =>
 .gd ((0 : Int) ≤ j2 ∧ j2 < (p1.length : Int)) fun g2 =>
 .m 5 <|
 .s (.dr [] ([(2, some (((0 : Int) ≤ j2 ∧ j2 < (p0.length : Int)))), (6, some (((0 : Int) ≤ j2 ∧ j2 < (p1.length : Int))))]) (obsAll.cons (ob1 g1) (obsAll.cons (ob1 g2) obsAll.nil)) [0, 1, 5, 25] []) <|
 .bs ((!(((p0.getD (Int.toNat j2) default).Name.toList == (p1.getD (Int.toNat j2) default).Name.toList) && (((p0.getD (Int.toNat j2) default).Value.toList == (p1.getD (Int.toNat j2) default).Value.toList) && true)))) [25] xb fun x3 =>
 .cond 2 (
 .r 2 1 100 [4] [] <|
 .lf 3 [4] [] (.inr (.inr (false)))
 ) (
 .r 4 3 100 [0, 1, 5] [] <|
 .lf 1 [0, 1, 5] [] (.inl (IntKind.wrap .i64 (j2 + 1)))
 )
 ) (
 .lf 1 [] [] (.inr (.inl ()))
 )
 ) fun j1 =>
 .r 2 1 100 [4] [] <|
 .lf 3 [4] [] true
 )
/-- logtide/logtideref11.Same -/
theorem c_r11_Same {p0 : List S_Field} {p1 : List S_Field} {r : Bool} (h : F_r11_Same p0 p1 = some r) : Spec Tryz.prog 98 [.c (.d (.ro 2 p0.length (gT fS_Field p0))), .c (.d (.ro 2 p1.length (gT fS_Field p1)))] [] (xb r) [] :=
  Cert.spec [] (fun r : Bool => xb r) (fun r => []) (z_r11_Same p0 p1) Tryz.func98 rfl (by kernel_rfl) h
noncomputable def L_r12_Check_2 (r5 : List S_Field × Int) (j2 : Int) : Option ((Int) ⊕ ((Unit) ⊕ (Int))) :=
 cond (decide (j2 < (r5.1.length : Int))) (
 gd ((0 : Int) ≤ j2 ∧ j2 < (r5.1.length : Int)) (
 cond (decide ((((r5.1.getD (Int.toNat j2) default).Value).size : Int) > 2000)) (
 some (.inr (.inr (3)))) (
 some (.inl (IntKind.wrap .i64 (j2 + 1)))))) (
 some (.inr (.inl ())))
noncomputable def F_r12_Check (p0 : S_Event) : Option (Int) :=
 bnd (F_r12_place p0) fun r1 =>
 bd (cond (cond (r1 != 0) true (decide (p0.Time < 0))) true (decide (p0.Time > 253402300799999))) fun x2 =>
 cond x2 (
 some 2) (
 bnd (F_r12_weight p0.Weight) fun r3 =>
 cond (!r3) (
 some 21) (
 bnd (F_r12_lines p0 2000) fun r4 =>
 cond (r4 != 0) (
 some r4) (
 cond (cond (decide ((p0.Trace.size : Int) > 32)) true (decide ((p0.Stream.size : Int) > 32))) (
 some 3) (
 bnd (F_r11_Sort p0.Fields) fun r5 =>
 cond (r5.2 != 0) (
 some r5.2) (
 bnd (F_r11_Same r5.1 p0.Fields) fun r6 =>
 cond (!r6) (
 some 19) (
 bindE (σ := (Unit)) (
 loop (L_r12_Check_2 r5) 0) fun j1 =>
 some 0))))))
noncomputable def z_r12_Check (p0 : S_Event) : Cert Tryz.prog 68 (Int) :=
 .r 2 2 100 [1] [100] <|
 .r 5 1 101 [1, 8] [100] <|
 .bind (F_r12_place p0) fun r1 hr1 =>
 .s (.call [] [] (c_r12_place hr1)) <|
 .r 0 1 101 [1, 3] [100] <|
 .rp 4 12 101 [1, 21] [100] (let u1 := (cond (r1 != 0) true (decide (p0.Time < 0))); let u2 := ((!(r1 != 0)) = true → (!(r1 != 0)) = true); some ((u2 ∧ (u2 ∧ (((r1 != 0) = false → (!(r1 != 0)) = true) ∧ (((!u1) = true → (!u1) = true) ∧ (((!u1) = true → (!u1) = true) ∧ (u1 = false → (!u1) = true)))))))) (ob1 (⟨fun h => h, ⟨fun h => h, ⟨(fun h => by rw [h]; rfl), ⟨fun h => h, ⟨fun h => h, (fun h => by rw [h]; rfl)⟩⟩⟩⟩⟩)) <|
 .bs ((cond (cond (r1 != 0) true (decide (p0.Time < 0))) true (decide (p0.Time > 253402300799999)))) [21] xb fun x2 =>
 .cond 2 (
 .r 2 1 101 [2] [] <|
 .lf 3 [2] [] 2
 ) (
 .r 5 2 101 [1, 23] [100] <|
 .bind (F_r12_weight p0.Weight) fun r3 hr3 =>
 .s (.call [] [] (c_r12_weight hr3)) <|
 .r 0 1 101 [1, 25] [100] <|
 .cond 2 (
 .r 2 1 101 [2] [] <|
 .lf 3 [2] [] 21
 ) (
 .r 5 1 101 [1, 26] [100] <|
 .bind (F_r12_lines p0 2000) fun r4 hr4 =>
 .s (.call [] [] (c_r12_lines hr4)) <|
 .r 0 1 101 [1, 4] [100] <|
 .r 4 2 101 [1, 4, 29] [100] <|
 .cond 2 (
 .r 2 2 101 [2] [] <|
 .lf 3 [2] [] r4
 ) (
 .rp 5 10 101 [1, 40] [100] (let u1 := (decide ((p0.Trace.size : Int) > 32)); let u2 := ((!u1) = true → (!u1) = true); some ((u2 ∧ (u2 ∧ (u2 ∧ (u1 = false → (!u1) = true)))))) (ob1 (⟨fun h => h, ⟨fun h => h, ⟨fun h => h, (fun h => by rw [h]; rfl)⟩⟩⟩)) <|
 .cond 2 (
 .r 2 1 101 [2] [] <|
 .lf 3 [2] [] 3
 ) (
 .r 4 2 101 [1, 43] [100] <|
 .bind (F_r11_Sort p0.Fields) fun r5 hr5 =>
 .s (.call [] [(900, 101)] (c_r11_Sort hr5)) <|
 .r 0 5 102 [1, 5, 6] [100, 101] <|
 .r 5 2 102 [1, 5, 6, 48] [100, 101] <|
 .cond 2 (
 .r 2 2 102 [2] [] <|
 .lf 3 [2] [] r5.2
 ) (
 .r 5 3 102 [5, 50, 52] [101] <|
 .bind (F_r11_Same r5.1 p0.Fields) fun r6 hr6 =>
 .s (.call [(60, 101)] [] (Spec.lend 60 154 2 r5.1.length (gT fS_Field r5.1) _ (c_r11_Same hr6) (args := [.c (.nm 60), .c (.d (.ro 2 p0.Fields.length (gT fS_Field p0.Fields)))]) rfl rfl rfl (by repeat (first | trivial | refine ⟨fun _ _ => ⟨_, rfl⟩, ?_⟩)))) <|
 .r 0 1 102 [5, 54] [101] <|
 .cond 2 (
 .r 2 1 102 [2] [] <|
 .lf 3 [2] [] 19
 ) (
 .sq 2 (fun j1 : (Unit) => ⟨[], []⟩) (
 .r 2 1 102 [5, 7] [101] <|
 .s (.cn [5, 7] [101]) <|
 .lp 3 (fun j2 : (Int) => ⟨[(5, .c (.nm 101)), (7, xi j2)], [(101, .rows 154 2 r5.1.length (gT fS_Field r5.1))]⟩) 0 fun j2 =>
 .r 3 4 102 [5, 7, 58] [101] <|
 .cond 2 (
 .gd ((0 : Int) ≤ j2 ∧ j2 < (r5.1.length : Int)) fun g7 =>
 .rp 6 7 102 [5, 7, 67] [101] (some ((((0 : Int) ≤ j2 ∧ j2 < (r5.1.length : Int)) ∧ ((Int.toNat j2) < r5.1.length)))) (ob1 (⟨g7, (tn g7)⟩)) <|
 .cond 2 (
 .r 2 1 102 [2] [] <|
 .lf 3 [2] [] (.inr (.inr (3)))
 ) (
 .r 4 3 102 [5, 7] [101] <|
 .lf 1 [5, 7] [101] (.inl (IntKind.wrap .i64 (j2 + 1)))
 )
 ) (
 .lf 1 [] [] (.inr (.inl ()))
 )
 ) fun j1 =>
 .r 2 1 102 [2] [] <|
 .lf 3 [2] [] 0
 )
 )
 )
 )
 )
 )
/-- logtide/logtideref12.Check -/
theorem c_r12_Check {p0 : S_Event} {r : Int} (h : F_r12_Check p0 = some r) : Spec Tryz.prog 69 [.agg (bS_Event p0)] [] (xi r) [] :=
  Cert.spec [] (fun r : Int => xi r) (fun r => []) (z_r12_Check p0) Tryz.func69 rfl (by kernel_rfl) h
noncomputable def L_r23_union_2 (p0 : List ByteArray) (p1 : List ByteArray) (j2 : Int × Int × List ByteArray × List Int × List Int) : Option ((Int × Int × List ByteArray × List Int × List Int) ⊕ ((List ByteArray × List Int × List Int) ⊕ (List ByteArray × List Int × List Int))) :=
 cond (cond (decide (j2.1 < (p0.length : Int))) true (decide (j2.2.1 < (p1.length : Int)))) (
 gd (((!(j2.2.1 == (p1.length : Int))) && (decide (j2.1 < (p0.length : Int)))) = true → (0 : Int) ≤ j2.1 ∧ j2.1 < (p0.length : Int)) (
 gd (((!(j2.2.1 == (p1.length : Int))) && (decide (j2.1 < (p0.length : Int)))) = true → (0 : Int) ≤ j2.2.1 ∧ j2.2.1 < (p1.length : Int)) (
 bd (cond (j2.2.1 == (p1.length : Int)) true (cond (decide (j2.1 < (p0.length : Int))) (Op.bytesLess (p0.getD (Int.toNat j2.1) default).toList (p1.getD (Int.toNat j2.2.1) default).toList) false)) fun x3 =>
 cond x3 (
 gd ((j2.2.2.2.1.length + ([(j2.2.2.1.length : Int)] : List Int).length) * 8 ≤ 140737488355328) (
 gd ((0 : Int) ≤ j2.1 ∧ j2.1 < (p0.length : Int)) (
 gd ((j2.2.2.1.length + ([(p0.getD (Int.toNat j2.1) default)] : List ByteArray).length) * 16 ≤ 140737488355328) (
 some (.inl ((IntKind.wrap .i64 (j2.1 + 1)), j2.2.1, (j2.2.2.1 ++ ([(p0.getD (Int.toNat j2.1) default)] : List ByteArray)), (j2.2.2.2.1 ++ ([(j2.2.2.1.length : Int)] : List Int)), j2.2.2.2.2)))))) (
 gd ((!(j2.1 == (p0.length : Int))) = true → (0 : Int) ≤ j2.2.1 ∧ j2.2.1 < (p1.length : Int)) (
 gd ((!(j2.1 == (p0.length : Int))) = true → (0 : Int) ≤ j2.1 ∧ j2.1 < (p0.length : Int)) (
 bd (cond (j2.1 == (p0.length : Int)) true (Op.bytesLess (p1.getD (Int.toNat j2.2.1) default).toList (p0.getD (Int.toNat j2.1) default).toList)) fun x9 =>
 cond x9 (
 gd ((j2.2.2.2.2.length + ([(j2.2.2.1.length : Int)] : List Int).length) * 8 ≤ 140737488355328) (
 gd ((0 : Int) ≤ j2.2.1 ∧ j2.2.1 < (p1.length : Int)) (
 gd ((j2.2.2.1.length + ([(p1.getD (Int.toNat j2.2.1) default)] : List ByteArray).length) * 16 ≤ 140737488355328) (
 some (.inl (j2.1, (IntKind.wrap .i64 (j2.2.1 + 1)), (j2.2.2.1 ++ ([(p1.getD (Int.toNat j2.2.1) default)] : List ByteArray)), j2.2.2.2.1, (j2.2.2.2.2 ++ ([(j2.2.2.1.length : Int)] : List Int)))))))) (
 gd ((j2.2.2.2.1.length + ([(j2.2.2.1.length : Int)] : List Int).length) * 8 ≤ 140737488355328) (
 gd ((j2.2.2.2.2.length + ([(j2.2.2.1.length : Int)] : List Int).length) * 8 ≤ 140737488355328) (
 gd ((0 : Int) ≤ j2.1 ∧ j2.1 < (p0.length : Int)) (
 gd ((j2.2.2.1.length + ([(p0.getD (Int.toNat j2.1) default)] : List ByteArray).length) * 16 ≤ 140737488355328) (
 some (.inl ((IntKind.wrap .i64 (j2.1 + 1)), (IntKind.wrap .i64 (j2.2.1 + 1)), (j2.2.2.1 ++ ([(p0.getD (Int.toNat j2.1) default)] : List ByteArray)), (j2.2.2.2.1 ++ ([(j2.2.2.1.length : Int)] : List Int)), (j2.2.2.2.2 ++ ([(j2.2.2.1.length : Int)] : List Int))))))))))))))) (
 some (.inr (.inl (j2.2.2.1, j2.2.2.2.1, j2.2.2.2.2))))
noncomputable def F_r23_union (p0 : List ByteArray) (p1 : List ByteArray) : Option (List ByteArray × List Int × List Int) :=
 bindE (σ := (List ByteArray × List Int × List Int)) (
 loop (L_r23_union_2 p0 p1) (0, 0, ([] : List ByteArray), ([] : List Int), ([] : List Int))) fun j1 =>
 some (j1.1, j1.2.1, j1.2.2)
noncomputable def z_r23_union (p0 : List ByteArray) (p1 : List ByteArray) : Cert Tryz.prog 112 (List ByteArray × List Int × List Int) :=
 .r 2 3 100 [0, 1] [] <|
 .r 4 1 100 [0, 1, 7] [] <|
 .r 4 2 100 [0, 1, 7, 8, 9] [] <|
 .r 4 2 100 [0, 1, 7, 8, 9, 10, 11] [] <|
 .sq 2 (fun j1 : (List ByteArray × List Int × List Int) => ⟨[(7, .c (.nm 100)), (8, .c (.nm 101)), (9, .c (.nm 102))], [(100, .rows 9 1 j1.1.length (gT fStr j1.1)), (101, .rows 3 1 j1.2.1.length (gT (fInt .i64) j1.2.1)), (102, .rows 3 1 j1.2.2.length (gT (fInt .i64) j1.2.2))]⟩) (
 .s (.own 7 100 9 1 (gT fStr [])) <|
 .s (.own 8 101 3 1 (gT (fInt .i64) [])) <|
 .s (.own 9 102 3 1 (gT (fInt .i64) [])) <|
 .s (.cn [0, 1, 7, 8, 9, 10, 11] [100, 101, 102]) <|
 .lp 1 (fun j2 : (Int × Int × List ByteArray × List Int × List Int) => ⟨[(0, .c (.d (.ro 1 p0.length (gT fStr p0)))), (1, .c (.d (.ro 1 p1.length (gT fStr p1)))), (7, .c (.nm 100)), (8, .c (.nm 101)), (9, .c (.nm 102)), (10, xi j2.1), (11, xi j2.2.1)], [(100, .rows 9 1 j2.2.2.1.length (gT fStr j2.2.2.1)), (101, .rows 3 1 j2.2.2.2.1.length (gT (fInt .i64) j2.2.2.2.1)), (102, .rows 3 1 j2.2.2.2.2.length (gT (fInt .i64) j2.2.2.2.2))]⟩) (0, 0, ([] : List ByteArray), ([] : List Int), ([] : List Int)) fun j2 =>
 .rp 3 10 103 [0, 1, 7, 8, 9, 10, 11, 21] [100, 101, 102] (let u1 := (decide (j2.1 < (p0.length : Int))); let u2 := ((!u1) = true → (!u1) = true); some ((u2 ∧ ((u2 ∧ u2) ∧ (u1 = false → (!u1) = true))))) (ob1 (⟨fun h => h, ⟨⟨fun h => h, fun h => h⟩, (fun h => by rw [h]; rfl)⟩⟩)) <|
 .cond 2 (
 .s (.cn [0, 1, 7, 8, 9, 10, 11] [100, 101, 102]) <|
 .gd (((!(j2.2.1 == (p1.length : Int))) && (decide (j2.1 < (p0.length : Int)))) = true → (0 : Int) ≤ j2.1 ∧ j2.1 < (p0.length : Int)) fun g1 =>
 .gd (((!(j2.2.1 == (p1.length : Int))) && (decide (j2.1 < (p0.length : Int)))) = true → (0 : Int) ≤ j2.2.1 ∧ j2.2.1 < (p1.length : Int)) fun g2 =>
 .m 5 <|
 .s (.dr [] (let u2 := (!(j2.2.1 == (p1.length : Int))); let u4 := (u2 = true → u2 = true); let u5 := (decide (j2.1 < (p0.length : Int))); let u1 := (u2 && u5); let u3 := (u1 = true → u1 = true); [(7, some (u4)), (8, some ((u4 ∧ u4))), (9, some (u4)), (12, some (((u3 ∧ u3) ∧ (u1 = true → (0 : Int) ≤ j2.1 ∧ j2.1 < (p0.length : Int))))), (13, some (u3)), (16, some (((u3 ∧ u3) ∧ (u1 = true → (0 : Int) ≤ j2.2.1 ∧ j2.2.1 < (p1.length : Int))))), (17, some (u3)), (18, some ((u3 ∧ u3))), (19, some ((u4 ∧ (u2 = true → u5 = true → u1 = true)))), (20, some (((j2.2.1 == (p1.length : Int)) = false → u2 = true)))]) (obsAll.cons (ob1 (fun h => h)) (obsAll.cons (ob1 (⟨fun h => h, fun h => h⟩)) (obsAll.cons (ob1 (fun h => h)) (obsAll.cons (ob1 (⟨⟨fun h => h, fun h => h⟩, g1⟩)) (obsAll.cons (ob1 (fun h => h)) (obsAll.cons (ob1 (⟨⟨fun h => h, fun h => h⟩, g2⟩)) (obsAll.cons (ob1 (fun h => h)) (obsAll.cons (ob1 (⟨fun h => h, fun h => h⟩)) (obsAll.cons (ob1 (⟨fun h => h, (fun h1 h2 => by rw [h1, h2]; rfl)⟩)) (obsAll.cons (ob1 (fun h => by rw [h]; rfl)) obsAll.nil)))))))))) [0, 1, 7, 8, 9, 10, 11, 43] [100, 101, 102]) <|
 .bs ((cond (j2.2.1 == (p1.length : Int)) true (cond (decide (j2.1 < (p0.length : Int))) (Op.bytesLess (p0.getD (Int.toNat j2.1) default).toList (p1.getD (Int.toNat j2.2.1) default).toList) false))) [43] xb fun x3 =>
 .cond 2 (
 .r 2 4 103 [0, 1, 7, 9, 10, 11, 65, 68] [100, 101, 102] <|
 .gd ((j2.2.2.2.1.length + ([(j2.2.2.1.length : Int)] : List Int).length) * 8 ≤ 140737488355328) fun g4 =>
 .s (.appL (fInt .i64) (j2.2.2.2.1) (([(j2.2.2.1.length : Int)] : List Int)) (gT (fInt .i64) j2.2.2.2.1) (.inr rfl) 3 1 8 103 g4) <|
 .r 0 1 104 [0, 1, 7, 8, 9, 10, 11] [100, 102, 103] <|
 .gd ((0 : Int) ≤ j2.1 ∧ j2.1 < (p0.length : Int)) fun g5 =>
 .rp 4 6 104 [0, 1, 8, 9, 10, 11, 70, 75] [100, 102, 103] (some (((0 : Int) ≤ j2.1 ∧ j2.1 < (p0.length : Int)))) (ob1 g5) <|
 .gd ((j2.2.2.1.length + ([(p0.getD (Int.toNat j2.1) default)] : List ByteArray).length) * 16 ≤ 140737488355328) fun g6 =>
 .s (.appL fStr (j2.2.2.1) (([(p0.getD (Int.toNat j2.1) default)] : List ByteArray)) (gT fStr j2.2.2.1) (.inr rfl) 9 1 16 104 g6) <|
 .r 0 1 105 [0, 1, 7, 8, 9, 10, 11] [102, 103, 104] <|
 .r 3 3 105 [0, 1, 7, 8, 9, 10, 11] [102, 103, 104] <|
 .s (.cn [0, 1, 7, 8, 9, 10, 11] [102, 103, 104]) <|
 .s (.rn 104 100) <|
 .s (.rn 103 101) <|
 .lf 1 [0, 1, 7, 8, 9, 10, 11] [100, 101, 102] (.inl ((IntKind.wrap .i64 (j2.1 + 1)), j2.2.1, (j2.2.2.1 ++ ([(p0.getD (Int.toNat j2.1) default)] : List ByteArray)), (j2.2.2.2.1 ++ ([(j2.2.2.1.length : Int)] : List Int)), j2.2.2.2.2))
 ) (
 .s (.cn [0, 1, 7, 8, 9, 10, 11] [100, 101, 102]) <|
 .gd ((!(j2.1 == (p0.length : Int))) = true → (0 : Int) ≤ j2.2.1 ∧ j2.2.1 < (p1.length : Int)) fun g7 =>
 .gd ((!(j2.1 == (p0.length : Int))) = true → (0 : Int) ≤ j2.1 ∧ j2.1 < (p0.length : Int)) fun g8 =>
 .m 1 <|
 .s (.dr [] (let u2 := (j2.1 == (p0.length : Int)); let u1 := ((!u2) = true → (!u2) = true); [(7, some (((u1 ∧ u1) ∧ ((!u2) = true → (0 : Int) ≤ j2.2.1 ∧ j2.2.1 < (p1.length : Int))))), (8, some (u1)), (11, some (((u1 ∧ u1) ∧ ((!u2) = true → (0 : Int) ≤ j2.1 ∧ j2.1 < (p0.length : Int))))), (12, some (u1)), (13, some ((u1 ∧ u1))), (14, some ((u2 = false → (!u2) = true)))]) (obsAll.cons (ob1 (⟨⟨fun h => h, fun h => h⟩, g7⟩)) (obsAll.cons (ob1 (fun h => h)) (obsAll.cons (ob1 (⟨⟨fun h => h, fun h => h⟩, g8⟩)) (obsAll.cons (ob1 (fun h => h)) (obsAll.cons (ob1 (⟨fun h => h, fun h => h⟩)) (obsAll.cons (ob1 (fun h => by rw [h]; rfl)) obsAll.nil)))))) [0, 1, 7, 8, 9, 10, 11, 79] [100, 101, 102]) <|
 .bs ((cond (j2.1 == (p0.length : Int)) true (Op.bytesLess (p1.getD (Int.toNat j2.2.1) default).toList (p0.getD (Int.toNat j2.1) default).toList))) [79] xb fun x9 =>
 .cond 2 (
 .r 2 4 105 [0, 1, 7, 8, 10, 11, 95, 98] [100, 101, 102] <|
 .gd ((j2.2.2.2.2.length + ([(j2.2.2.1.length : Int)] : List Int).length) * 8 ≤ 140737488355328) fun g10 =>
 .s (.appL (fInt .i64) (j2.2.2.2.2) (([(j2.2.2.1.length : Int)] : List Int)) (gT (fInt .i64) j2.2.2.2.2) (.inr rfl) 3 1 8 105 g10) <|
 .r 0 1 106 [0, 1, 7, 8, 9, 10, 11] [100, 101, 105] <|
 .gd ((0 : Int) ≤ j2.2.1 ∧ j2.2.1 < (p1.length : Int)) fun g11 =>
 .rp 4 6 106 [0, 1, 8, 9, 10, 11, 100, 105] [100, 101, 105] (some (((0 : Int) ≤ j2.2.1 ∧ j2.2.1 < (p1.length : Int)))) (ob1 g11) <|
 .gd ((j2.2.2.1.length + ([(p1.getD (Int.toNat j2.2.1) default)] : List ByteArray).length) * 16 ≤ 140737488355328) fun g12 =>
 .s (.appL fStr (j2.2.2.1) (([(p1.getD (Int.toNat j2.2.1) default)] : List ByteArray)) (gT fStr j2.2.2.1) (.inr rfl) 9 1 16 106 g12) <|
 .r 0 1 107 [0, 1, 7, 8, 9, 10, 11] [101, 105, 106] <|
 .r 3 3 107 [0, 1, 7, 8, 9, 10, 11] [101, 105, 106] <|
 .s (.cn [0, 1, 7, 8, 9, 10, 11] [101, 105, 106]) <|
 .s (.rn 106 100) <|
 .s (.rn 105 102) <|
 .lf 1 [0, 1, 7, 8, 9, 10, 11] [100, 101, 102] (.inl (j2.1, (IntKind.wrap .i64 (j2.2.1 + 1)), (j2.2.2.1 ++ ([(p1.getD (Int.toNat j2.2.1) default)] : List ByteArray)), j2.2.2.2.1, (j2.2.2.2.2 ++ ([(j2.2.2.1.length : Int)] : List Int))))
 ) (
 .r 2 4 107 [0, 1, 7, 9, 10, 11, 22, 25] [100, 101, 102] <|
 .gd ((j2.2.2.2.1.length + ([(j2.2.2.1.length : Int)] : List Int).length) * 8 ≤ 140737488355328) fun g13 =>
 .s (.appL (fInt .i64) (j2.2.2.2.1) (([(j2.2.2.1.length : Int)] : List Int)) (gT (fInt .i64) j2.2.2.2.1) (.inr rfl) 3 1 8 107 g13) <|
 .r 0 4 108 [0, 1, 7, 10, 11, 26, 27, 30] [100, 102, 107] <|
 .gd ((j2.2.2.2.2.length + ([(j2.2.2.1.length : Int)] : List Int).length) * 8 ≤ 140737488355328) fun g14 =>
 .s (.appL (fInt .i64) (j2.2.2.2.2) (([(j2.2.2.1.length : Int)] : List Int)) (gT (fInt .i64) j2.2.2.2.2) (.inr rfl) 3 1 8 108 g14) <|
 .r 0 2 109 [0, 1, 7, 8, 9, 10, 11] [100, 107, 108] <|
 .gd ((0 : Int) ≤ j2.1 ∧ j2.1 < (p0.length : Int)) fun g15 =>
 .rp 4 6 109 [0, 1, 8, 9, 10, 11, 32, 37] [100, 107, 108] (some (((0 : Int) ≤ j2.1 ∧ j2.1 < (p0.length : Int)))) (ob1 g15) <|
 .gd ((j2.2.2.1.length + ([(p0.getD (Int.toNat j2.1) default)] : List ByteArray).length) * 16 ≤ 140737488355328) fun g16 =>
 .s (.appL fStr (j2.2.2.1) (([(p0.getD (Int.toNat j2.1) default)] : List ByteArray)) (gT fStr j2.2.2.1) (.inr rfl) 9 1 16 109 g16) <|
 .r 0 1 110 [0, 1, 7, 8, 9, 10, 11] [107, 108, 109] <|
 .r 4 3 110 [0, 1, 7, 8, 9, 10, 11] [107, 108, 109] <|
 .r 3 3 110 [0, 1, 7, 8, 9, 10, 11] [107, 108, 109] <|
 .s (.cn [0, 1, 7, 8, 9, 10, 11] [107, 108, 109]) <|
 .s (.rn 109 100) <|
 .s (.rn 107 101) <|
 .s (.rn 108 102) <|
 .lf 1 [0, 1, 7, 8, 9, 10, 11] [100, 101, 102] (.inl ((IntKind.wrap .i64 (j2.1 + 1)), (IntKind.wrap .i64 (j2.2.1 + 1)), (j2.2.2.1 ++ ([(p0.getD (Int.toNat j2.1) default)] : List ByteArray)), (j2.2.2.2.1 ++ ([(j2.2.2.1.length : Int)] : List Int)), (j2.2.2.2.2 ++ ([(j2.2.2.1.length : Int)] : List Int))))
 )
 )
 ) (
 .lf 1 [7, 8, 9] [100, 101, 102] (.inr (.inl (j2.2.2.1, j2.2.2.2.1, j2.2.2.2.2)))
 )
 ) fun j1 =>
 .r 2 6 110 [4, 5, 6] [100, 101, 102] <|
 .s (.rn 100 900) <|
 .s (.rn 101 901) <|
 .s (.rn 102 902) <|
 .lf 3 [4, 5, 6] [900, 901, 902] (j1.1, j1.2.1, j1.2.2)
/-- logtide/logtideref23.union -/
theorem c_r23_union {p0 : List ByteArray} {p1 : List ByteArray} {r : List ByteArray × List Int × List Int} (h : F_r23_union p0 p1 = some r) : Spec Tryz.prog 117 [.c (.d (.ro 1 p0.length (gT fStr p0))), .c (.d (.ro 1 p1.length (gT fStr p1)))] [] (.tup [.c (.nm 900), .c (.nm 901), .c (.nm 902)]) [(900, .rows 9 1 r.1.length (gT fStr r.1)), (901, .rows 3 1 r.2.1.length (gT (fInt .i64) r.2.1)), (902, .rows 3 1 r.2.2.length (gT (fInt .i64) r.2.2))] :=
  Cert.spec [900, 901, 902] (fun r : List ByteArray × List Int × List Int => .tup [.c (.nm 900), .c (.nm 901), .c (.nm 902)]) (fun r => [(900, .rows 9 1 r.1.length (gT fStr r.1)), (901, .rows 3 1 r.2.1.length (gT (fInt .i64) r.2.1)), (902, .rows 3 1 r.2.2.length (gT (fInt .i64) r.2.2))]) (z_r23_union p0 p1) Tryz.func117 rfl (by kernel_rfl) h
noncomputable def B_r23_Distinct (p99 : (List ByteArray) → Option (List ByteArray)) (p0 : List ByteArray) : Option (List ByteArray) :=
 cond (decide ((p0.length : Int) < 2)) (
 gd ((([] : List ByteArray).length + p0.length) * 16 ≤ 140737488355328) (
 some (([] : List ByteArray) ++ p0))) (
 gd ((0 : Int) ≤ (0 : Int) ∧ (0 : Int) ≤ ((IntKind.wrap .i64 (Int.tdiv (p0.length : Int) 2)) : Int) ∧ ((IntKind.wrap .i64 (Int.tdiv (p0.length : Int) 2)) : Int) ≤ (p0.length : Int)) (
 bnd (p99 (sub p0 0 (IntKind.wrap .i64 (Int.tdiv (p0.length : Int) 2)))) fun r3 =>
 gd ((0 : Int) ≤ ((IntKind.wrap .i64 (Int.tdiv (p0.length : Int) 2)) : Int) ∧ ((IntKind.wrap .i64 (Int.tdiv (p0.length : Int) 2)) : Int) ≤ ((p0.length : Int) : Int) ∧ ((p0.length : Int) : Int) ≤ (p0.length : Int)) (
 bnd (p99 (sub p0 (IntKind.wrap .i64 (Int.tdiv (p0.length : Int) 2)) (p0.length : Int))) fun r5 =>
 bnd (F_r23_union r3 r5) fun r6 =>
 some r6.1)))
noncomputable def F_r23_Distinct (p0 : List ByteArray) : Option (List ByteArray) := iter B_r23_Distinct (p0.length + 1) p0
noncomputable def z_r23_Distinct (p99 : (List ByteArray) → Option (List ByteArray)) (hp99 : ∀ (p0 : List ByteArray) (r : List ByteArray), p99 p0 = some r → Spec Tryz.prog 101 [.c (.d (.ro 1 p0.length (gT fStr p0)))] [] (.c (.nm 900)) [(900, .rows 9 1 r.length (gT fStr r))]) (p0 : List ByteArray) : Cert Tryz.prog 29 (List ByteArray) :=
 .r 2 1 100 [0] [] <|
 .r 5 3 100 [0, 9] [] <|
 .cond 2 (
 .r 2 1 100 [10] [] <|
 .gd ((([] : List ByteArray).length + p0.length) * 16 ≤ 140737488355328) fun g1 =>
 .s (.appL fStr (([] : List ByteArray)) (p0) (fun _ _ => .v undef) (.inl rfl) 9 1 16 100 g1) <|
 .r 0 1 101 [2] [100] <|
 .s (.rn 100 900) <|
 .lf 3 [2] [900] (([] : List ByteArray) ++ p0)
 ) (
 .rp 4 4 101 [0, 3] [] (some (((2 : Int) ≠ 0))) (ob1 (by decide)) <|
 .s (.cn [0, 3] []) <|
 .gd ((0 : Int) ≤ (0 : Int) ∧ (0 : Int) ≤ ((IntKind.wrap .i64 (Int.tdiv (p0.length : Int) 2)) : Int) ∧ ((IntKind.wrap .i64 (Int.tdiv (p0.length : Int) 2)) : Int) ≤ (p0.length : Int)) fun g2 =>
 .bind (p99 (sub p0 0 (IntKind.wrap .i64 (Int.tdiv (p0.length : Int) 2)))) fun r3 hr3 =>
 .gd ((0 : Int) ≤ ((IntKind.wrap .i64 (Int.tdiv (p0.length : Int) 2)) : Int) ∧ ((IntKind.wrap .i64 (Int.tdiv (p0.length : Int) 2)) : Int) ≤ ((p0.length : Int) : Int) ∧ ((p0.length : Int) : Int) ≤ (p0.length : Int)) fun g4 =>
 .bind (p99 (sub p0 (IntKind.wrap .i64 (Int.tdiv (p0.length : Int) 2)) (p0.length : Int))) fun r5 hr5 =>
 .bind (F_r23_union r3 r5) fun r6 hr6 =>
 .m 3 <|
 .s (.dr [.call 3 [] [(900, 101)] ((hp99 _ _ hr3).args (AsImp.cons (AImp.c (CImp.sub g2)) AsImp.nil)), .call 7 [] [(900, 102)] ((hp99 _ _ hr5).args (AsImp.cons (AImp.c (CImp.sub g4)) AsImp.nil)), .call 8 [(61, 102), (60, 101)] [(900, 103), (901, 104), (902, 105)] (Spec.lend 61 9 1 r5.length (gT fStr r5) _ (Spec.lend 60 9 1 r3.length (gT fStr r3) _ (c_r23_union hr6) (args := [.c (.nm 60), .c (.d (.ro 1 r5.length (gT fStr r5)))]) rfl rfl rfl (by repeat (first | trivial | refine ⟨fun _ _ => ⟨_, rfl⟩, ?_⟩))) (args := [.c (.nm 60), .c (.nm 61)]) rfl rfl rfl (by repeat (first | trivial | refine ⟨fun _ _ => ⟨_, rfl⟩, ?_⟩)))] (let u1 := ((IntKind.wrap .i64 (Int.tdiv (p0.length : Int) 2)) : Int); [(2, some (((0 : Int) ≤ (0 : Int) ∧ (0 : Int) ≤ u1 ∧ u1 ≤ (p0.length : Int)))), (6, some (((0 : Int) ≤ u1 ∧ u1 ≤ ((p0.length : Int) : Int) ∧ ((p0.length : Int) : Int) ≤ (p0.length : Int))))]) (obsAll.cons (ob1 g2) (obsAll.cons (ob1 g4) obsAll.nil)) [4] [103]) <|
 .r 4 2 106 [2] [103] <|
 .s (.rn 103 900) <|
 .lf 3 [2] [900] r6.1
 )
/-- logtide/logtideref23.Distinct -/
theorem c_r23_Distinct {p0 : List ByteArray} {r : List ByteArray} (h : F_r23_Distinct p0 = some r) : Spec Tryz.prog 101 [.c (.d (.ro 1 p0.length (gT fStr p0)))] [] (.c (.nm 900)) [(900, .rows 9 1 r.length (gT fStr r))] :=
  iter_ind (G := B_r23_Distinct) (R := fun (p0 : List ByteArray) (r : List ByteArray) => Spec Tryz.prog 101 [.c (.d (.ro 1 p0.length (gT fStr p0)))] [] (.c (.nm 900)) [(900, .rows 9 1 r.length (gT fStr r))]) (fun p99 hp99 p0 r h => Cert.spec [900] (fun r : List ByteArray => .c (.nm 900)) (fun r => [(900, .rows 9 1 r.length (gT fStr r))]) (z_r23_Distinct p99 hp99 p0) Tryz.func101 rfl (by kernel_rfl) h) _ _ _ h
noncomputable def F_r27_letter (p0 : Int) : Option (Int) :=
 bd (cond (cond (cond (decide (p0 ≥ 97)) (decide (p0 ≤ 122)) false) true (cond (decide (p0 ≥ 48)) (decide (p0 ≤ 57)) false)) true (p0 == 95)) fun x1 =>
 cond x1 (
 some p0) (
 cond (cond (decide (p0 ≥ 65)) (decide (p0 ≤ 90)) false) (
 some (IntKind.wrap .u8 (p0 + 32))) (
 some 0))
noncomputable def z_r27_letter (p0 : Int) : Cert Tryz.prog 32 (Int) :=
 .r 2 1 100 [0] [] <|
 .rp 6 19 100 [0, 3] [] (let u1 := (cond (decide (p0 ≥ 97)) (decide (p0 ≤ 122)) false); let u2 := (cond u1 true (cond (decide (p0 ≥ 48)) (decide (p0 ≤ 57)) false)); let u3 := ((decide (p0 ≥ 97)) = true → (decide (p0 ≥ 97)) = true); let u4 := ((!u1) = true → (!u1) = true); let u5 := ((!u1) && (decide (p0 ≥ 48))); some ((u3 ∧ (u3 ∧ (u4 ∧ (u4 ∧ ((u5 = true → u5 = true) ∧ ((u4 ∧ ((!u1) = true → (decide (p0 ≥ 48)) = true → u5 = true)) ∧ ((u1 = false → (!u1) = true) ∧ (((!u2) = true → (!u2) = true) ∧ (u2 = false → (!u2) = true))))))))))) (ob1 (⟨fun h => h, ⟨(fun h => h), ⟨fun h => h, ⟨fun h => h, ⟨fun h => h, ⟨⟨fun h => h, (fun h1 h2 => by rw [h1, h2]; rfl)⟩, ⟨(fun h => by rw [h]; rfl), ⟨fun h => h, (fun h => by rw [h]; rfl)⟩⟩⟩⟩⟩⟩⟩⟩)) <|
 .bs ((cond (cond (cond (decide (p0 ≥ 97)) (decide (p0 ≤ 122)) false) true (cond (decide (p0 ≥ 48)) (decide (p0 ≤ 57)) false)) true (p0 == 95))) [3] xb fun x1 =>
 .cond 2 (
 .r 2 2 100 [2] [] <|
 .lf 3 [2] [] p0
 ) (
 .rp 2 7 100 [0, 23] [] (some ((((decide (p0 ≥ 65)) = true → (decide (p0 ≥ 65)) = true) ∧ ((decide (p0 ≥ 65)) = true → (decide (p0 ≥ 65)) = true)))) (ob1 (⟨fun h => h, (fun h => h)⟩)) <|
 .cond 2 (
 .r 2 3 100 [2] [] <|
 .lf 3 [2] [] (IntKind.wrap .u8 (p0 + 32))
 ) (
 .r 5 1 100 [2] [] <|
 .lf 3 [2] [] 0
 )
 )
/-- logtide/logtideref27.letter -/
theorem c_r27_letter {p0 : Int} {r : Int} (h : F_r27_letter p0 = some r) : Spec Tryz.prog 116 [.c (.d (.v (.int .u8 p0)))] [] (.c (.d (.v (.int .u8 r)))) [] :=
  Cert.spec [] (fun r : Int => .c (.d (.v (.int .u8 r)))) (fun r => []) (z_r27_letter p0) Tryz.func116 rfl (by kernel_rfl) h
end Go.Abs
