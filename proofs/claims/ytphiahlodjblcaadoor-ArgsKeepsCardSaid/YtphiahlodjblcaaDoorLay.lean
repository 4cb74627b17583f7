/- The layouts of the types of this program. Printed by lays.py. No condition. -/
import Derived.Test.YtphiahlodjblcaaDoorProg
import Derived.Test.YtphiahlodjblcaaDoorVcg2
namespace Go.Proofs.YtphiahlodjblcaaDoor.Vcg
open Go
theorem lay0 : lay Tryd.prog 0 = some { kind := LK.other, size := 1, bytes := 0, zero := some [Value.tuple { toList := [] }] } := by kernel_rfl
theorem lay1 : lay Tryd.prog 1 = some { kind := LK.other, size := 1, bytes := 8, zero := some [Value.nilFunc] } := by kernel_rfl
theorem lay2 : lay Tryd.prog 2 = some { kind := LK.int IntKind.i64, size := 1, bytes := 8, zero := some [Value.int IntKind.i64 (Int.ofNat 0)] } := by kernel_rfl
theorem lay3 : lay Tryd.prog 3 = some { kind := LK.int IntKind.i64, size := 1, bytes := 8, zero := some [Value.int IntKind.i64 (Int.ofNat 0)] } := by kernel_rfl
theorem lay4 : lay Tryd.prog 4 = some { kind := LK.bool, size := 1, bytes := 1, zero := some [Value.bool false] } := by kernel_rfl
theorem lay5 : lay Tryd.prog 5 = some { kind := LK.int IntKind.u8, size := 1, bytes := 1, zero := some [Value.int IntKind.u8 (Int.ofNat 0)] } := by kernel_rfl
theorem lay6 : lay Tryd.prog 6 = some { kind := LK.int IntKind.u8, size := 1, bytes := 1, zero := some [Value.int IntKind.u8 (Int.ofNat 0)] } := by kernel_rfl
theorem lay7 : lay Tryd.prog 7 = some { kind := LK.struct [(0, 1, false), (1, 1, false), (2, 1, false), (3, 1, false)], size := 4, bytes := 24, zero := some [Value.int IntKind.i64 (Int.ofNat 0), Value.int IntKind.i64 (Int.ofNat 0), Value.bool false, Value.int IntKind.u8 (Int.ofNat 0)] } := by kernel_rfl
theorem lay8 : lay Tryd.prog 8 = some { kind := LK.struct [(0, 1, false), (1, 1, false), (2, 1, false), (3, 1, false)], size := 4, bytes := 24, zero := some [Value.int IntKind.i64 (Int.ofNat 0), Value.int IntKind.i64 (Int.ofNat 0), Value.bool false, Value.int IntKind.u8 (Int.ofNat 0)] } := by kernel_rfl
theorem lay9 : lay Tryd.prog 9 = some { kind := LK.str, size := 1, bytes := 16, zero := some [Value.string ⟨#[]⟩] } := by kernel_rfl
theorem lay10 : lay Tryd.prog 10 = some { kind := LK.str, size := 1, bytes := 16, zero := some [Value.string ⟨#[]⟩] } := by kernel_rfl
theorem lay11 : lay Tryd.prog 11 = some { kind := LK.str, size := 1, bytes := 16, zero := some [Value.string ⟨#[]⟩] } := by kernel_rfl
theorem lay12 : lay Tryd.prog 12 = some { kind := LK.int IntKind.u64, size := 1, bytes := 8, zero := some [Value.int IntKind.u64 (Int.ofNat 0)] } := by kernel_rfl
theorem lay13 : lay Tryd.prog 13 = some { kind := LK.struct [(0, 1, false), (1, 1, false)], size := 2, bytes := 24, zero := some [Value.string ⟨#[]⟩, Value.int IntKind.u64 (Int.ofNat 0)] } := by kernel_rfl
theorem lay14 : lay Tryd.prog 14 = some { kind := LK.struct [(0, 1, false), (1, 1, false)], size := 2, bytes := 24, zero := some [Value.string ⟨#[]⟩, Value.int IntKind.u64 (Int.ofNat 0)] } := by kernel_rfl
theorem lay15 : lay Tryd.prog 15 = some { kind := LK.other, size := 1, bytes := 8, zero := some [Value.pointer none] } := by kernel_rfl
theorem lay16 : lay Tryd.prog 16 = some { kind := LK.other, size := 1, bytes := 8, zero := some [Value.pointer none] } := by kernel_rfl
theorem lay17 : lay Tryd.prog 17 = some { kind := LK.other, size := 1, bytes := 8, zero := some [Value.pointer none] } := by kernel_rfl
theorem lay18 : lay Tryd.prog 18 = some { kind := LK.struct [(0, 1, false)], size := 1, bytes := 8, zero := some [Value.pointer none] } := by kernel_rfl
theorem lay19 : lay Tryd.prog 19 = some { kind := LK.struct [(0, 1, false)], size := 1, bytes := 8, zero := some [Value.pointer none] } := by kernel_rfl
theorem lay20 : lay Tryd.prog 20 = some { kind := LK.other, size := 1, bytes := 16, zero := some [Value.nilIface] } := by kernel_rfl
theorem lay21 : lay Tryd.prog 21 = some { kind := LK.int IntKind.i32, size := 1, bytes := 4, zero := some [Value.int IntKind.i32 (Int.ofNat 0)] } := by kernel_rfl
theorem lay22 : lay Tryd.prog 22 = some { kind := LK.slice 9, size := 1, bytes := 24, zero := some [Value.slice none 0 0] } := by kernel_rfl
theorem lay23 : lay Tryd.prog 23 = some { kind := LK.other, size := 1, bytes := 8, zero := some [Value.nilFunc] } := by kernel_rfl
theorem lay24 : lay Tryd.prog 24 = some { kind := LK.other, size := 1, bytes := 8, zero := some [Value.nilFunc] } := by kernel_rfl
theorem lay25 : lay Tryd.prog 25 = some { kind := LK.struct [(0, 1, false), (1, 1, false), (2, 1, false)], size := 3, bytes := 48, zero := some [Value.int IntKind.i64 (Int.ofNat 0), Value.string ⟨#[]⟩, Value.slice none 0 0] } := by kernel_rfl
theorem lay26 : lay Tryd.prog 26 = some { kind := LK.struct [(0, 1, false), (1, 1, false), (2, 1, false)], size := 3, bytes := 48, zero := some [Value.int IntKind.i64 (Int.ofNat 0), Value.string ⟨#[]⟩, Value.slice none 0 0] } := by kernel_rfl
theorem lay27 : lay Tryd.prog 27 = some { kind := LK.other, size := 1, bytes := 0, zero := some [Value.tuple { toList := [Value.agg { toList := [Value.int IntKind.i64 (Int.ofNat 0), Value.string ⟨#[]⟩, Value.slice none 0 0] }, Value.string ⟨#[]⟩] }] } := by kernel_rfl
theorem lay28 : lay Tryd.prog 28 = some { kind := LK.other, size := 1, bytes := 8, zero := some [Value.nilFunc] } := by kernel_rfl
theorem lay29 : lay Tryd.prog 29 = some { kind := LK.other, size := 1, bytes := 8, zero := some [Value.nilFunc] } := by kernel_rfl
theorem lay30 : lay Tryd.prog 30 = some { kind := LK.other, size := 1, bytes := 8, zero := some [Value.nilFunc] } := by kernel_rfl
theorem lay31 : lay Tryd.prog 31 = some { kind := LK.other, size := 1, bytes := 8, zero := some [Value.nilFunc] } := by kernel_rfl
theorem lay32 : lay Tryd.prog 32 = some { kind := LK.other, size := 1, bytes := 8, zero := some [Value.nilFunc] } := by kernel_rfl
theorem lay33 : lay Tryd.prog 33 = some { kind := LK.other, size := 1, bytes := 8, zero := some [Value.nilFunc] } := by kernel_rfl
theorem lay34 : lay Tryd.prog 34 = some { kind := LK.slice 5, size := 1, bytes := 24, zero := some [Value.slice none 0 0] } := by kernel_rfl
theorem lay35 : lay Tryd.prog 35 = some { kind := LK.other, size := 1, bytes := 8, zero := some [Value.nilFunc] } := by kernel_rfl
theorem lay36 : lay Tryd.prog 36 = some { kind := LK.other, size := 1, bytes := 8, zero := some [Value.nilFunc] } := by kernel_rfl
theorem lay37 : lay Tryd.prog 37 = some { kind := LK.other, size := 1, bytes := 8, zero := some [Value.nilFunc] } := by kernel_rfl
theorem lay38 : lay Tryd.prog 38 = some { kind := LK.struct [(0, 1, false), (1, 1, false), (2, 1, false)], size := 3, bytes := 40, zero := some [Value.string ⟨#[]⟩, Value.string ⟨#[]⟩, Value.int IntKind.i64 (Int.ofNat 0)] } := by kernel_rfl
theorem lay39 : lay Tryd.prog 39 = some { kind := LK.struct [(0, 1, false), (1, 1, false), (2, 1, false)], size := 3, bytes := 40, zero := some [Value.string ⟨#[]⟩, Value.string ⟨#[]⟩, Value.int IntKind.i64 (Int.ofNat 0)] } := by kernel_rfl
theorem lay40 : lay Tryd.prog 40 = some { kind := LK.array 6 39, size := 18, bytes := 240, zero := some [Value.string ⟨#[]⟩, Value.string ⟨#[]⟩, Value.int IntKind.i64 (Int.ofNat 0), Value.string ⟨#[]⟩, Value.string ⟨#[]⟩, Value.int IntKind.i64 (Int.ofNat 0), Value.string ⟨#[]⟩, Value.string ⟨#[]⟩, Value.int IntKind.i64 (Int.ofNat 0), Value.string ⟨#[]⟩, Value.string ⟨#[]⟩, Value.int IntKind.i64 (Int.ofNat 0), Value.string ⟨#[]⟩, Value.string ⟨#[]⟩, Value.int IntKind.i64 (Int.ofNat 0), Value.string ⟨#[]⟩, Value.string ⟨#[]⟩, Value.int IntKind.i64 (Int.ofNat 0)] } := by kernel_rfl
theorem lay41 : lay Tryd.prog 41 = some { kind := LK.other, size := 1, bytes := 8, zero := some [Value.nilFunc] } := by kernel_rfl
theorem lay42 : lay Tryd.prog 42 = some { kind := LK.other, size := 1, bytes := 8, zero := some [Value.nilFunc] } := by kernel_rfl
theorem lay43 : lay Tryd.prog 43 = some { kind := LK.other, size := 1, bytes := 0, zero := some [Value.tuple { toList := [Value.string ⟨#[]⟩, Value.slice none 0 0, Value.string ⟨#[]⟩] }] } := by kernel_rfl
theorem lay44 : lay Tryd.prog 44 = some { kind := LK.other, size := 1, bytes := 8, zero := some [Value.nilFunc] } := by kernel_rfl
theorem lay45 : lay Tryd.prog 45 = some { kind := LK.other, size := 1, bytes := 8, zero := some [Value.nilFunc] } := by kernel_rfl
theorem lay46 : lay Tryd.prog 46 = some { kind := LK.other, size := 1, bytes := 8, zero := some [Value.nilFunc] } := by kernel_rfl
theorem lay47 : lay Tryd.prog 47 = some { kind := LK.other, size := 1, bytes := 0, zero := some [Value.tuple { toList := [Value.string ⟨#[]⟩, Value.int IntKind.i64 (Int.ofNat 0), Value.string ⟨#[]⟩] }] } := by kernel_rfl
theorem lay48 : lay Tryd.prog 48 = some { kind := LK.other, size := 1, bytes := 8, zero := some [Value.nilFunc] } := by kernel_rfl
theorem lay49 : lay Tryd.prog 49 = some { kind := LK.other, size := 1, bytes := 8, zero := some [Value.nilFunc] } := by kernel_rfl
theorem lay50 : lay Tryd.prog 50 = some { kind := LK.other, size := 1, bytes := 8, zero := some [Value.nilFunc] } := by kernel_rfl
theorem lay51 : lay Tryd.prog 51 = some { kind := LK.other, size := 1, bytes := 8, zero := some [Value.nilFunc] } := by kernel_rfl
theorem lay52 : lay Tryd.prog 52 = some { kind := LK.other, size := 1, bytes := 8, zero := some [Value.pointer none] } := by kernel_rfl
theorem lay53 : lay Tryd.prog 53 = some { kind := LK.struct [(0, 1, false), (1, 1, false)], size := 2, bytes := 32, zero := some [Value.pointer none, Value.slice none 0 0] } := by kernel_rfl
theorem lay54 : lay Tryd.prog 54 = some { kind := LK.struct [(0, 1, false), (1, 1, false)], size := 2, bytes := 32, zero := some [Value.pointer none, Value.slice none 0 0] } := by kernel_rfl
theorem lay55 : lay Tryd.prog 55 = some { kind := LK.other, size := 1, bytes := 16, zero := some [Value.nilIface] } := by kernel_rfl
theorem lay56 : lay Tryd.prog 56 = some { kind := LK.other, size := 1, bytes := 16, zero := some [Value.nilIface] } := by kernel_rfl
theorem lay57 : lay Tryd.prog 57 = some { kind := LK.other, size := 1, bytes := 8, zero := some [Value.nilFunc] } := by kernel_rfl
theorem lay58 : lay Tryd.prog 58 = some { kind := LK.other, size := 1, bytes := 8, zero := some [Value.nilFunc] } := by kernel_rfl
theorem lay59 : lay Tryd.prog 59 = some { kind := LK.other, size := 1, bytes := 0, zero := some [Value.tuple { toList := [Value.int IntKind.i64 (Int.ofNat 0), Value.nilIface] }] } := by kernel_rfl
theorem lay60 : lay Tryd.prog 60 = some { kind := LK.other, size := 1, bytes := 8, zero := some [Value.nilFunc] } := by kernel_rfl
theorem lay61 : lay Tryd.prog 61 = some { kind := LK.int IntKind.u64, size := 1, bytes := 8, zero := some [Value.int IntKind.u64 (Int.ofNat 0)] } := by kernel_rfl
theorem lay62 : lay Tryd.prog 62 = some { kind := LK.other, size := 1, bytes := 8, zero := some [Value.nilFunc] } := by kernel_rfl
theorem lay63 : lay Tryd.prog 63 = some { kind := LK.other, size := 1, bytes := 8, zero := some [Value.nilFunc] } := by kernel_rfl
theorem lay64 : lay Tryd.prog 64 = some { kind := LK.other, size := 1, bytes := 8, zero := some [Value.nilFunc] } := by kernel_rfl
theorem lay65 : lay Tryd.prog 65 = some { kind := LK.other, size := 1, bytes := 8, zero := some [Value.nilFunc] } := by kernel_rfl
theorem lay66 : lay Tryd.prog 66 = some { kind := LK.other, size := 1, bytes := 8, zero := some [Value.nilFunc] } := by kernel_rfl
theorem lay67 : lay Tryd.prog 67 = some { kind := LK.other, size := 1, bytes := 8, zero := some [Value.pointer none] } := by kernel_rfl
theorem lay68 : lay Tryd.prog 68 = some { kind := LK.other, size := 1, bytes := 8, zero := some [Value.nilFunc] } := by kernel_rfl
theorem lay69 : lay Tryd.prog 69 = some { kind := LK.other, size := 1, bytes := 8, zero := some [Value.pointer none] } := by kernel_rfl
theorem lay70 : lay Tryd.prog 70 = some { kind := LK.other, size := 1, bytes := 8, zero := some [Value.nilFunc] } := by kernel_rfl
theorem lay71 : lay Tryd.prog 71 = some { kind := LK.other, size := 1, bytes := 8, zero := some [Value.nilFunc] } := by kernel_rfl
theorem lay72 : lay Tryd.prog 72 = some { kind := LK.other, size := 1, bytes := 8, zero := some [Value.nilFunc] } := by kernel_rfl
theorem lay73 : lay Tryd.prog 73 = some { kind := LK.other, size := 1, bytes := 8, zero := some [Value.nilFunc] } := by kernel_rfl
theorem lay74 : lay Tryd.prog 74 = some { kind := LK.other, size := 1, bytes := 8, zero := some [Value.nilFunc] } := by kernel_rfl
theorem lay75 : lay Tryd.prog 75 = some { kind := LK.int IntKind.i64, size := 1, bytes := 8, zero := some [Value.int IntKind.i64 (Int.ofNat 0)] } := by kernel_rfl
theorem lay76 : lay Tryd.prog 76 = some { kind := LK.other, size := 1, bytes := 0, zero := some [Value.tuple { toList := [Value.int IntKind.i64 (Int.ofNat 0), Value.int IntKind.i64 (Int.ofNat 0)] }] } := by kernel_rfl
theorem lay77 : lay Tryd.prog 77 = some { kind := LK.other, size := 1, bytes := 8, zero := some [Value.nilFunc] } := by kernel_rfl
theorem lay78 : lay Tryd.prog 78 = some { kind := LK.other, size := 1, bytes := 8, zero := some [Value.nilFunc] } := by kernel_rfl
theorem lay79 : lay Tryd.prog 79 = some { kind := LK.other, size := 1, bytes := 8, zero := some [Value.nilFunc] } := by kernel_rfl
theorem lay80 : lay Tryd.prog 80 = some { kind := LK.other, size := 1, bytes := 8, zero := some [Value.nilFunc] } := by kernel_rfl
theorem lay81 : lay Tryd.prog 81 = some { kind := LK.other, size := 1, bytes := 0, zero := some [Value.tuple { toList := [Value.int IntKind.i64 (Int.ofNat 0), Value.bool false] }] } := by kernel_rfl
theorem lay82 : lay Tryd.prog 82 = some { kind := LK.other, size := 1, bytes := 8, zero := some [Value.nilFunc] } := by kernel_rfl
theorem lay83 : lay Tryd.prog 83 = some { kind := LK.other, size := 1, bytes := 8, zero := some [Value.nilFunc] } := by kernel_rfl
theorem lay84 : lay Tryd.prog 84 = some { kind := LK.int IntKind.u32, size := 1, bytes := 4, zero := some [Value.int IntKind.u32 (Int.ofNat 0)] } := by kernel_rfl
theorem lay85 : lay Tryd.prog 85 = some { kind := LK.other, size := 1, bytes := 8, zero := some [Value.nilFunc] } := by kernel_rfl
theorem lay86 : lay Tryd.prog 86 = some { kind := LK.int IntKind.u64, size := 1, bytes := 8, zero := some [Value.int IntKind.u64 (Int.ofNat 0)] } := by kernel_rfl
theorem lay87 : lay Tryd.prog 87 = some { kind := LK.int IntKind.u64, size := 1, bytes := 8, zero := some [Value.int IntKind.u64 (Int.ofNat 0)] } := by kernel_rfl
theorem lay88 : lay Tryd.prog 88 = some { kind := LK.other, size := 1, bytes := 8, zero := some [Value.nilFunc] } := by kernel_rfl
theorem lay89 : lay Tryd.prog 89 = some { kind := LK.other, size := 1, bytes := 8, zero := some [Value.nilFunc] } := by kernel_rfl
theorem lay90 : lay Tryd.prog 90 = some { kind := LK.other, size := 1, bytes := 8, zero := some [Value.nilFunc] } := by kernel_rfl
theorem lay91 : lay Tryd.prog 91 = some { kind := LK.other, size := 1, bytes := 8, zero := some [Value.pointer none] } := by kernel_rfl
theorem lay92 : lay Tryd.prog 92 = some { kind := LK.other, size := 1, bytes := 8, zero := some [Value.nilFunc] } := by kernel_rfl
theorem lay93 : lay Tryd.prog 93 = some { kind := LK.other, size := 1, bytes := 8, zero := some [Value.pointer none] } := by kernel_rfl
theorem lay94 : lay Tryd.prog 94 = some { kind := LK.other, size := 1, bytes := 0, zero := some [Value.tuple { toList := [Value.int IntKind.i64 (Int.ofNat 0), Value.int IntKind.i64 (Int.ofNat 0)] }] } := by kernel_rfl
theorem lay95 : lay Tryd.prog 95 = some { kind := LK.other, size := 1, bytes := 8, zero := some [Value.nilFunc] } := by kernel_rfl
theorem lay96 : lay Tryd.prog 96 = some { kind := LK.struct [(0, 1, false), (1, 1, false), (2, 1, false), (3, 1, false)], size := 4, bytes := 40, zero := some [Value.pointer none, Value.pointer none, Value.pointer none, Value.string ⟨#[]⟩] } := by kernel_rfl
theorem lay97 : lay Tryd.prog 97 = some { kind := LK.struct [(0, 1, false), (1, 1, false), (2, 1, false), (3, 1, false)], size := 4, bytes := 40, zero := some [Value.pointer none, Value.pointer none, Value.pointer none, Value.string ⟨#[]⟩] } := by kernel_rfl
theorem lay98 : lay Tryd.prog 98 = some { kind := LK.array 0 16, size := 0, bytes := 0, zero := some [] } := by kernel_rfl
theorem lay99 : lay Tryd.prog 99 = some { kind := LK.struct [(0, 0, true)], size := 0, bytes := 0, zero := some [] } := by kernel_rfl
theorem lay100 : lay Tryd.prog 100 = some { kind := LK.struct [(0, 0, true)], size := 0, bytes := 0, zero := some [] } := by kernel_rfl
theorem lay101 : lay Tryd.prog 101 = some { kind := LK.other, size := 1, bytes := 8, zero := some [Value.nilFunc] } := by kernel_rfl
theorem lay102 : lay Tryd.prog 102 = some { kind := LK.int IntKind.u8, size := 1, bytes := 1, zero := some [Value.int IntKind.u8 (Int.ofNat 0)] } := by kernel_rfl
theorem lay103 : lay Tryd.prog 103 = some { kind := LK.int IntKind.u8, size := 1, bytes := 1, zero := some [Value.int IntKind.u8 (Int.ofNat 0)] } := by kernel_rfl
theorem lay104 : lay Tryd.prog 104 = some { kind := LK.other, size := 1, bytes := 8, zero := some [Value.nilFunc] } := by kernel_rfl
theorem lay105 : lay Tryd.prog 105 = some { kind := LK.int IntKind.i32, size := 1, bytes := 4, zero := some [Value.int IntKind.i32 (Int.ofNat 0)] } := by kernel_rfl
theorem lay106 : lay Tryd.prog 106 = some { kind := LK.int IntKind.i32, size := 1, bytes := 4, zero := some [Value.int IntKind.i32 (Int.ofNat 0)] } := by kernel_rfl
theorem lay107 : lay Tryd.prog 107 = some { kind := LK.struct [(0, 1, false), (1, 1, false), (2, 1, false), (3, 1, false), (4, 1, false), (5, 1, false), (6, 1, false), (7, 1, false), (8, 1, false), (9, 1, false), (10, 1, false)], size := 11, bytes := 48, zero := some [Value.int IntKind.u64 (Int.ofNat 0), Value.int IntKind.u64 (Int.ofNat 0), Value.int IntKind.u32 (Int.ofNat 0), Value.int IntKind.u8 (Int.ofNat 0), Value.int IntKind.u8 (Int.ofNat 0), Value.int IntKind.u8 (Int.ofNat 0), Value.int IntKind.u8 (Int.ofNat 0), Value.nilFunc, Value.pointer none, Value.int IntKind.i32 (Int.ofNat 0), Value.int IntKind.i32 (Int.ofNat 0)] } := by kernel_rfl
theorem lay108 : lay Tryd.prog 108 = some { kind := LK.struct [(0, 1, false), (1, 1, false), (2, 1, false), (3, 1, false), (4, 1, false), (5, 1, false), (6, 1, false), (7, 1, false), (8, 1, false), (9, 1, false), (10, 1, false)], size := 11, bytes := 48, zero := some [Value.int IntKind.u64 (Int.ofNat 0), Value.int IntKind.u64 (Int.ofNat 0), Value.int IntKind.u32 (Int.ofNat 0), Value.int IntKind.u8 (Int.ofNat 0), Value.int IntKind.u8 (Int.ofNat 0), Value.int IntKind.u8 (Int.ofNat 0), Value.int IntKind.u8 (Int.ofNat 0), Value.nilFunc, Value.pointer none, Value.int IntKind.i32 (Int.ofNat 0), Value.int IntKind.i32 (Int.ofNat 0)] } := by kernel_rfl
theorem keyl7 : keyL Tryd.prog 7 = some [LK.int IntKind.i64, LK.int IntKind.i64, LK.bool, LK.int IntKind.u8] := by kernel_rfl
theorem keyl8 : keyL Tryd.prog 8 = some [LK.int IntKind.i64, LK.int IntKind.i64, LK.bool, LK.int IntKind.u8] := by kernel_rfl
theorem keyl38 : keyL Tryd.prog 38 = some [LK.str, LK.str, LK.int IntKind.i64] := by kernel_rfl
theorem keyl39 : keyL Tryd.prog 39 = some [LK.str, LK.str, LK.int IntKind.i64] := by kernel_rfl
attribute [push_cast] lay0 lay1 lay2 lay3 lay4 lay5 lay6 lay7 lay8 lay9 lay10 lay11 lay12 lay13 lay14 lay15 lay16 lay17 lay18 lay19 lay20 lay21 lay22 lay23 lay24 lay25 lay26 lay27 lay28 lay29 lay30 lay31 lay32 lay33 lay34 lay35 lay36 lay37 lay38 lay39 lay40 lay41 lay42 lay43 lay44 lay45 lay46 lay47 lay48 lay49 lay50 lay51 lay52 lay53 lay54 lay55 lay56 lay57 lay58 lay59 lay60 lay61 lay62 lay63 lay64 lay65 lay66 lay67 lay68 lay69 lay70 lay71 lay72 lay73 lay74 lay75 lay76 lay77 lay78 lay79 lay80 lay81 lay82 lay83 lay84 lay85 lay86 lay87 lay88 lay89 lay90 lay91 lay92 lay93 lay94 lay95 lay96 lay97 lay98 lay99 lay100 lay101 lay102 lay103 lay104 lay105 lay106 lay107 lay108 keyl7 keyl8 keyl38 keyl39
end Go.Proofs.YtphiahlodjblcaaDoor.Vcg
