/- The layouts of the types of this program. Printed by lays.py. No condition. -/
import Derived.Test.YtheokoehnmlafaaProg
import Derived.Test.YtheokoehnmlafaaVcg2
namespace Go.Proofs.Ytheokoehnmlafaa.Vcg
open Go
theorem lay0 : lay Try.prog 0 = some { kind := LK.other, size := 1, bytes := 0, zero := some [Value.tuple { toList := [] }] } := by kernel_rfl
theorem lay1 : lay Try.prog 1 = some { kind := LK.other, size := 1, bytes := 8, zero := some [Value.nilFunc] } := by kernel_rfl
theorem lay2 : lay Try.prog 2 = some { kind := LK.int IntKind.i64, size := 1, bytes := 8, zero := some [Value.int IntKind.i64 (Int.ofNat 0)] } := by kernel_rfl
theorem lay3 : lay Try.prog 3 = some { kind := LK.int IntKind.i64, size := 1, bytes := 8, zero := some [Value.int IntKind.i64 (Int.ofNat 0)] } := by kernel_rfl
theorem lay4 : lay Try.prog 4 = some { kind := LK.bool, size := 1, bytes := 1, zero := some [Value.bool false] } := by kernel_rfl
theorem lay5 : lay Try.prog 5 = some { kind := LK.int IntKind.u8, size := 1, bytes := 1, zero := some [Value.int IntKind.u8 (Int.ofNat 0)] } := by kernel_rfl
theorem lay6 : lay Try.prog 6 = some { kind := LK.int IntKind.u8, size := 1, bytes := 1, zero := some [Value.int IntKind.u8 (Int.ofNat 0)] } := by kernel_rfl
theorem lay7 : lay Try.prog 7 = some { kind := LK.struct [(0, 1, false), (1, 1, false), (2, 1, false), (3, 1, false)], size := 4, bytes := 24, zero := some [Value.int IntKind.i64 (Int.ofNat 0), Value.int IntKind.i64 (Int.ofNat 0), Value.bool false, Value.int IntKind.u8 (Int.ofNat 0)] } := by kernel_rfl
theorem lay8 : lay Try.prog 8 = some { kind := LK.struct [(0, 1, false), (1, 1, false), (2, 1, false), (3, 1, false)], size := 4, bytes := 24, zero := some [Value.int IntKind.i64 (Int.ofNat 0), Value.int IntKind.i64 (Int.ofNat 0), Value.bool false, Value.int IntKind.u8 (Int.ofNat 0)] } := by kernel_rfl
theorem lay9 : lay Try.prog 9 = some { kind := LK.str, size := 1, bytes := 16, zero := some [Value.string ⟨#[]⟩] } := by kernel_rfl
theorem lay10 : lay Try.prog 10 = some { kind := LK.str, size := 1, bytes := 16, zero := some [Value.string ⟨#[]⟩] } := by kernel_rfl
theorem lay11 : lay Try.prog 11 = some { kind := LK.str, size := 1, bytes := 16, zero := some [Value.string ⟨#[]⟩] } := by kernel_rfl
theorem lay12 : lay Try.prog 12 = some { kind := LK.int IntKind.u64, size := 1, bytes := 8, zero := some [Value.int IntKind.u64 (Int.ofNat 0)] } := by kernel_rfl
theorem lay13 : lay Try.prog 13 = some { kind := LK.struct [(0, 1, false), (1, 1, false)], size := 2, bytes := 24, zero := some [Value.string ⟨#[]⟩, Value.int IntKind.u64 (Int.ofNat 0)] } := by kernel_rfl
theorem lay14 : lay Try.prog 14 = some { kind := LK.struct [(0, 1, false), (1, 1, false)], size := 2, bytes := 24, zero := some [Value.string ⟨#[]⟩, Value.int IntKind.u64 (Int.ofNat 0)] } := by kernel_rfl
theorem lay15 : lay Try.prog 15 = some { kind := LK.other, size := 1, bytes := 8, zero := some [Value.pointer none] } := by kernel_rfl
theorem lay16 : lay Try.prog 16 = some { kind := LK.other, size := 1, bytes := 8, zero := some [Value.pointer none] } := by kernel_rfl
theorem lay17 : lay Try.prog 17 = some { kind := LK.other, size := 1, bytes := 8, zero := some [Value.pointer none] } := by kernel_rfl
theorem lay18 : lay Try.prog 18 = some { kind := LK.struct [(0, 1, false)], size := 1, bytes := 8, zero := some [Value.pointer none] } := by kernel_rfl
theorem lay19 : lay Try.prog 19 = some { kind := LK.struct [(0, 1, false)], size := 1, bytes := 8, zero := some [Value.pointer none] } := by kernel_rfl
theorem lay20 : lay Try.prog 20 = some { kind := LK.other, size := 1, bytes := 16, zero := some [Value.nilIface] } := by kernel_rfl
theorem lay21 : lay Try.prog 21 = some { kind := LK.int IntKind.i32, size := 1, bytes := 4, zero := some [Value.int IntKind.i32 (Int.ofNat 0)] } := by kernel_rfl
theorem lay22 : lay Try.prog 22 = some { kind := LK.slice 30, size := 1, bytes := 24, zero := some [Value.slice none 0 0] } := by kernel_rfl
theorem lay23 : lay Try.prog 23 = some { kind := LK.slice 5, size := 1, bytes := 24, zero := some [Value.slice none 0 0] } := by kernel_rfl
theorem lay24 : lay Try.prog 24 = some { kind := LK.other, size := 1, bytes := 8, zero := some [Value.nilFunc] } := by kernel_rfl
theorem lay25 : lay Try.prog 25 = some { kind := LK.struct [(0, 1, false), (1, 1, false), (2, 1, false), (3, 1, false)], size := 4, bytes := 48, zero := some [Value.int IntKind.i64 (Int.ofNat 0), Value.int IntKind.i64 (Int.ofNat 0), Value.int IntKind.i64 (Int.ofNat 0), Value.slice none 0 0] } := by kernel_rfl
theorem lay26 : lay Try.prog 26 = some { kind := LK.struct [(0, 1, false), (1, 1, false), (2, 1, false), (3, 1, false)], size := 4, bytes := 48, zero := some [Value.int IntKind.i64 (Int.ofNat 0), Value.int IntKind.i64 (Int.ofNat 0), Value.int IntKind.i64 (Int.ofNat 0), Value.slice none 0 0] } := by kernel_rfl
theorem lay27 : lay Try.prog 27 = some { kind := LK.other, size := 1, bytes := 8, zero := some [Value.nilFunc] } := by kernel_rfl
theorem lay28 : lay Try.prog 28 = some { kind := LK.slice 52, size := 1, bytes := 24, zero := some [Value.slice none 0 0] } := by kernel_rfl
theorem lay29 : lay Try.prog 29 = some { kind := LK.struct [(0, 1, false), (1, 1, false), (2, 1, false), (3, 1, false), (4, 1, false), (5, 1, false)], size := 6, bytes := 72, zero := some [Value.int IntKind.i64 (Int.ofNat 0), Value.int IntKind.i64 (Int.ofNat 0), Value.int IntKind.i64 (Int.ofNat 0), Value.string ⟨#[]⟩, Value.int IntKind.i64 (Int.ofNat 0), Value.slice none 0 0] } := by kernel_rfl
theorem lay30 : lay Try.prog 30 = some { kind := LK.struct [(0, 1, false), (1, 1, false), (2, 1, false), (3, 1, false), (4, 1, false), (5, 1, false)], size := 6, bytes := 72, zero := some [Value.int IntKind.i64 (Int.ofNat 0), Value.int IntKind.i64 (Int.ofNat 0), Value.int IntKind.i64 (Int.ofNat 0), Value.string ⟨#[]⟩, Value.int IntKind.i64 (Int.ofNat 0), Value.slice none 0 0] } := by kernel_rfl
theorem lay31 : lay Try.prog 31 = some { kind := LK.other, size := 1, bytes := 8, zero := some [Value.nilFunc] } := by kernel_rfl
theorem lay32 : lay Try.prog 32 = some { kind := LK.other, size := 1, bytes := 0, zero := some [Value.tuple { toList := [Value.agg { toList := [Value.int IntKind.i64 (Int.ofNat 0), Value.int IntKind.i64 (Int.ofNat 0), Value.int IntKind.i64 (Int.ofNat 0), Value.string ⟨#[]⟩, Value.int IntKind.i64 (Int.ofNat 0), Value.slice none 0 0] }, Value.bool false] }] } := by kernel_rfl
theorem lay33 : lay Try.prog 33 = some { kind := LK.other, size := 1, bytes := 8, zero := some [Value.nilFunc] } := by kernel_rfl
theorem lay34 : lay Try.prog 34 = some { kind := LK.other, size := 1, bytes := 8, zero := some [Value.nilFunc] } := by kernel_rfl
theorem lay35 : lay Try.prog 35 = some { kind := LK.other, size := 1, bytes := 8, zero := some [Value.nilFunc] } := by kernel_rfl
theorem lay36 : lay Try.prog 36 = some { kind := LK.other, size := 1, bytes := 8, zero := some [Value.nilFunc] } := by kernel_rfl
theorem lay37 : lay Try.prog 37 = some { kind := LK.other, size := 1, bytes := 8, zero := some [Value.nilFunc] } := by kernel_rfl
theorem lay38 : lay Try.prog 38 = some { kind := LK.other, size := 1, bytes := 8, zero := some [Value.nilFunc] } := by kernel_rfl
theorem lay39 : lay Try.prog 39 = some { kind := LK.int IntKind.i64, size := 1, bytes := 8, zero := some [Value.int IntKind.i64 (Int.ofNat 0)] } := by kernel_rfl
theorem lay40 : lay Try.prog 40 = some { kind := LK.other, size := 1, bytes := 0, zero := some [Value.tuple { toList := [Value.agg { toList := [Value.int IntKind.i64 (Int.ofNat 0), Value.int IntKind.i64 (Int.ofNat 0), Value.int IntKind.i64 (Int.ofNat 0), Value.slice none 0 0] }, Value.int IntKind.i64 (Int.ofNat 0)] }] } := by kernel_rfl
theorem lay41 : lay Try.prog 41 = some { kind := LK.other, size := 1, bytes := 8, zero := some [Value.nilFunc] } := by kernel_rfl
theorem lay42 : lay Try.prog 42 = some { kind := LK.other, size := 1, bytes := 0, zero := some [Value.tuple { toList := [Value.agg { toList := [Value.int IntKind.i64 (Int.ofNat 0), Value.int IntKind.i64 (Int.ofNat 0), Value.int IntKind.i64 (Int.ofNat 0), Value.slice none 0 0] }, Value.int IntKind.i64 (Int.ofNat 0)] }] } := by kernel_rfl
theorem lay43 : lay Try.prog 43 = some { kind := LK.other, size := 1, bytes := 8, zero := some [Value.nilFunc] } := by kernel_rfl
theorem lay44 : lay Try.prog 44 = some { kind := LK.other, size := 1, bytes := 8, zero := some [Value.nilFunc] } := by kernel_rfl
theorem lay45 : lay Try.prog 45 = some { kind := LK.other, size := 1, bytes := 0, zero := some [Value.tuple { toList := [Value.int IntKind.i64 (Int.ofNat 0), Value.bool false] }] } := by kernel_rfl
theorem lay46 : lay Try.prog 46 = some { kind := LK.other, size := 1, bytes := 8, zero := some [Value.nilFunc] } := by kernel_rfl
theorem lay47 : lay Try.prog 47 = some { kind := LK.other, size := 1, bytes := 8, zero := some [Value.nilFunc] } := by kernel_rfl
theorem lay48 : lay Try.prog 48 = some { kind := LK.other, size := 1, bytes := 8, zero := some [Value.nilFunc] } := by kernel_rfl
theorem lay49 : lay Try.prog 49 = some { kind := LK.other, size := 1, bytes := 8, zero := some [Value.nilFunc] } := by kernel_rfl
theorem lay50 : lay Try.prog 50 = some { kind := LK.other, size := 1, bytes := 8, zero := some [Value.nilFunc] } := by kernel_rfl
theorem lay51 : lay Try.prog 51 = some { kind := LK.struct [(0, 1, false), (1, 1, false)], size := 2, bytes := 24, zero := some [Value.string ⟨#[]⟩, Value.int IntKind.i64 (Int.ofNat 0)] } := by kernel_rfl
theorem lay52 : lay Try.prog 52 = some { kind := LK.struct [(0, 1, false), (1, 1, false)], size := 2, bytes := 24, zero := some [Value.string ⟨#[]⟩, Value.int IntKind.i64 (Int.ofNat 0)] } := by kernel_rfl
theorem lay53 : lay Try.prog 53 = some { kind := LK.other, size := 1, bytes := 8, zero := some [Value.nilFunc] } := by kernel_rfl
theorem lay54 : lay Try.prog 54 = some { kind := LK.other, size := 1, bytes := 8, zero := some [Value.nilFunc] } := by kernel_rfl
theorem lay55 : lay Try.prog 55 = some { kind := LK.other, size := 1, bytes := 8, zero := some [Value.nilFunc] } := by kernel_rfl
theorem lay56 : lay Try.prog 56 = some { kind := LK.other, size := 1, bytes := 8, zero := some [Value.nilFunc] } := by kernel_rfl
theorem lay57 : lay Try.prog 57 = some { kind := LK.other, size := 1, bytes := 8, zero := some [Value.nilFunc] } := by kernel_rfl
theorem lay58 : lay Try.prog 58 = some { kind := LK.other, size := 1, bytes := 8, zero := some [Value.nilFunc] } := by kernel_rfl
theorem lay59 : lay Try.prog 59 = some { kind := LK.int IntKind.u64, size := 1, bytes := 8, zero := some [Value.int IntKind.u64 (Int.ofNat 0)] } := by kernel_rfl
theorem lay60 : lay Try.prog 60 = some { kind := LK.other, size := 1, bytes := 8, zero := some [Value.nilFunc] } := by kernel_rfl
theorem lay61 : lay Try.prog 61 = some { kind := LK.other, size := 1, bytes := 8, zero := some [Value.nilFunc] } := by kernel_rfl
theorem lay62 : lay Try.prog 62 = some { kind := LK.other, size := 1, bytes := 8, zero := some [Value.nilFunc] } := by kernel_rfl
theorem lay63 : lay Try.prog 63 = some { kind := LK.struct [(0, 1, false), (1, 1, false), (2, 1, false), (3, 1, false)], size := 4, bytes := 40, zero := some [Value.pointer none, Value.pointer none, Value.pointer none, Value.string ⟨#[]⟩] } := by kernel_rfl
theorem lay64 : lay Try.prog 64 = some { kind := LK.struct [(0, 1, false), (1, 1, false), (2, 1, false), (3, 1, false)], size := 4, bytes := 40, zero := some [Value.pointer none, Value.pointer none, Value.pointer none, Value.string ⟨#[]⟩] } := by kernel_rfl
theorem lay65 : lay Try.prog 65 = some { kind := LK.array 0 16, size := 0, bytes := 0, zero := some [] } := by kernel_rfl
theorem lay66 : lay Try.prog 66 = some { kind := LK.struct [(0, 0, true)], size := 0, bytes := 0, zero := some [] } := by kernel_rfl
theorem lay67 : lay Try.prog 67 = some { kind := LK.struct [(0, 0, true)], size := 0, bytes := 0, zero := some [] } := by kernel_rfl
theorem lay68 : lay Try.prog 68 = some { kind := LK.other, size := 1, bytes := 8, zero := some [Value.nilFunc] } := by kernel_rfl
theorem lay69 : lay Try.prog 69 = some { kind := LK.int IntKind.u32, size := 1, bytes := 4, zero := some [Value.int IntKind.u32 (Int.ofNat 0)] } := by kernel_rfl
theorem lay70 : lay Try.prog 70 = some { kind := LK.int IntKind.u8, size := 1, bytes := 1, zero := some [Value.int IntKind.u8 (Int.ofNat 0)] } := by kernel_rfl
theorem lay71 : lay Try.prog 71 = some { kind := LK.int IntKind.u8, size := 1, bytes := 1, zero := some [Value.int IntKind.u8 (Int.ofNat 0)] } := by kernel_rfl
theorem lay72 : lay Try.prog 72 = some { kind := LK.other, size := 1, bytes := 8, zero := some [Value.nilFunc] } := by kernel_rfl
theorem lay73 : lay Try.prog 73 = some { kind := LK.other, size := 1, bytes := 8, zero := some [Value.pointer none] } := by kernel_rfl
theorem lay74 : lay Try.prog 74 = some { kind := LK.int IntKind.i32, size := 1, bytes := 4, zero := some [Value.int IntKind.i32 (Int.ofNat 0)] } := by kernel_rfl
theorem lay75 : lay Try.prog 75 = some { kind := LK.int IntKind.i32, size := 1, bytes := 4, zero := some [Value.int IntKind.i32 (Int.ofNat 0)] } := by kernel_rfl
theorem lay76 : lay Try.prog 76 = some { kind := LK.struct [(0, 1, false), (1, 1, false), (2, 1, false), (3, 1, false), (4, 1, false), (5, 1, false), (6, 1, false), (7, 1, false), (8, 1, false), (9, 1, false), (10, 1, false)], size := 11, bytes := 48, zero := some [Value.int IntKind.u64 (Int.ofNat 0), Value.int IntKind.u64 (Int.ofNat 0), Value.int IntKind.u32 (Int.ofNat 0), Value.int IntKind.u8 (Int.ofNat 0), Value.int IntKind.u8 (Int.ofNat 0), Value.int IntKind.u8 (Int.ofNat 0), Value.int IntKind.u8 (Int.ofNat 0), Value.nilFunc, Value.pointer none, Value.int IntKind.i32 (Int.ofNat 0), Value.int IntKind.i32 (Int.ofNat 0)] } := by kernel_rfl
theorem lay77 : lay Try.prog 77 = some { kind := LK.struct [(0, 1, false), (1, 1, false), (2, 1, false), (3, 1, false), (4, 1, false), (5, 1, false), (6, 1, false), (7, 1, false), (8, 1, false), (9, 1, false), (10, 1, false)], size := 11, bytes := 48, zero := some [Value.int IntKind.u64 (Int.ofNat 0), Value.int IntKind.u64 (Int.ofNat 0), Value.int IntKind.u32 (Int.ofNat 0), Value.int IntKind.u8 (Int.ofNat 0), Value.int IntKind.u8 (Int.ofNat 0), Value.int IntKind.u8 (Int.ofNat 0), Value.int IntKind.u8 (Int.ofNat 0), Value.nilFunc, Value.pointer none, Value.int IntKind.i32 (Int.ofNat 0), Value.int IntKind.i32 (Int.ofNat 0)] } := by kernel_rfl
theorem lay78 : lay Try.prog 78 = some { kind := LK.other, size := 1, bytes := 8, zero := some [Value.pointer none] } := by kernel_rfl
theorem keyl7 : keyL Try.prog 7 = some [LK.int IntKind.i64, LK.int IntKind.i64, LK.bool, LK.int IntKind.u8] := by kernel_rfl
theorem keyl8 : keyL Try.prog 8 = some [LK.int IntKind.i64, LK.int IntKind.i64, LK.bool, LK.int IntKind.u8] := by kernel_rfl
theorem keyl51 : keyL Try.prog 51 = some [LK.str, LK.int IntKind.i64] := by kernel_rfl
theorem keyl52 : keyL Try.prog 52 = some [LK.str, LK.int IntKind.i64] := by kernel_rfl
attribute [push_cast] lay0 lay1 lay2 lay3 lay4 lay5 lay6 lay7 lay8 lay9 lay10 lay11 lay12 lay13 lay14 lay15 lay16 lay17 lay18 lay19 lay20 lay21 lay22 lay23 lay24 lay25 lay26 lay27 lay28 lay29 lay30 lay31 lay32 lay33 lay34 lay35 lay36 lay37 lay38 lay39 lay40 lay41 lay42 lay43 lay44 lay45 lay46 lay47 lay48 lay49 lay50 lay51 lay52 lay53 lay54 lay55 lay56 lay57 lay58 lay59 lay60 lay61 lay62 lay63 lay64 lay65 lay66 lay67 lay68 lay69 lay70 lay71 lay72 lay73 lay74 lay75 lay76 lay77 lay78 keyl7 keyl8 keyl51 keyl52
end Go.Proofs.Ytheokoehnmlafaa.Vcg
