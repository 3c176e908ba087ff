/-
  Texts of the proof, put together: GreatDoorTe, GreatDoorLb, GreatDoorTb, GreatDoorKn, GreatDoorKm, GreatDoorSmB, GreatDoorSmC, GreatDoorSmD, GreatDoorSmE.
-/
import Derived.Test.YtdojencjbmahpaaGreatDoorChecked
import Derived.Test.YtdojencjbmahpaaGreatDoorGa
import Derived.KernelRfl
import Derived.Test.YtdojencjbmahpaaGreatDoorGd
import Derived.IntWalk
/-
  The type table of the third seat, for the symbolic executor.
-/
section
namespace Go.Proofs.YtdojencjbmahpaaGreatDoor
open Go.Rf
def te : TE := fun t => match t with
  | 2 => some ⟨.int .i64, 1, 8, [.int .i64 0], [], false⟩
  | 3 => some ⟨.int .i64, 1, 8, [.int .i64 0], [], false⟩
  | 4 => some ⟨.bool, 1, 1, [.bool false], [], false⟩
  | 5 => some ⟨.int .u8, 1, 1, [.int .u8 0], [], false⟩
  | 6 => some ⟨.int .u8, 1, 1, [.int .u8 0], [], false⟩
  | 7 => some ⟨.struct, 4, 24, [.int .i64 0, .int .i64 0, .bool false, .int .u8 0], [(0, 1, false), (1, 1, false), (2, 1, false), (3, 1, false)], true⟩
  | 8 => some ⟨.struct, 4, 24, [.int .i64 0, .int .i64 0, .bool false, .int .u8 0], [(0, 1, false), (1, 1, false), (2, 1, false), (3, 1, false)], true⟩
  | 9 => some ⟨.str, 1, 16, [.str ⟨#[]⟩], [], false⟩
  | 10 => some ⟨.str, 1, 16, [.str ⟨#[]⟩], [], false⟩
  | 11 => some ⟨.str, 1, 16, [.str ⟨#[]⟩], [], false⟩
  | 12 => some ⟨.int .u64, 1, 8, [.int .u64 0], [], false⟩
  | 21 => some ⟨.int .i32, 1, 4, [.int .i32 0], [], false⟩
  | 22 => some ⟨.slice 25, 1, 24, [.sl 7 true []], [], false⟩
  | 23 => some ⟨.slice 5, 1, 24, [.sl 1 true []], [], false⟩
  | 24 => some ⟨.struct, 7, 88, [.int .i64 0, .str ⟨#[]⟩, .str ⟨#[]⟩, .int .i64 0, .int .i64 0, .int .i64 0, .sl 1 true []], [(0, 1, false), (1, 1, false), (2, 1, false), (3, 1, false), (4, 1, false), (5, 1, false), (6, 1, false)], false⟩
  | 25 => some ⟨.struct, 7, 88, [.int .i64 0, .str ⟨#[]⟩, .str ⟨#[]⟩, .int .i64 0, .int .i64 0, .int .i64 0, .sl 1 true []], [(0, 1, false), (1, 1, false), (2, 1, false), (3, 1, false), (4, 1, false), (5, 1, false), (6, 1, false)], false⟩
  | 27 => some ⟨.slice 58, 1, 24, [.sl 8 true []], [], false⟩
  | 28 => some ⟨.struct, 4, 48, [.int .i64 0, .int .i64 0, .int .i64 0, .sl 8 true []], [(0, 1, false), (1, 1, false), (2, 1, false), (3, 1, false)], false⟩
  | 29 => some ⟨.struct, 4, 48, [.int .i64 0, .int .i64 0, .int .i64 0, .sl 8 true []], [(0, 1, false), (1, 1, false), (2, 1, false), (3, 1, false)], false⟩
  | 32 => some ⟨.slice 9, 1, 24, [.sl 1 true []], [], false⟩
  | 33 => some ⟨.struct, 5, 40, [.int .i64 0, .int .i64 0, .int .i64 0, .int .i64 0, .int .i64 0], [(0, 1, false), (1, 1, false), (2, 1, false), (3, 1, false), (4, 1, false)], true⟩
  | 34 => some ⟨.struct, 5, 40, [.int .i64 0, .int .i64 0, .int .i64 0, .int .i64 0, .int .i64 0], [(0, 1, false), (1, 1, false), (2, 1, false), (3, 1, false), (4, 1, false)], true⟩
  | 35 => some ⟨.struct, 7, 88, [.sl 1 true [], .sl 1 true [], .int .i64 0, .int .i64 0, .int .i64 0, .int .i64 0, .int .i64 0], [(0, 1, false), (1, 1, false), (2, 5, true)], false⟩
  | 36 => some ⟨.struct, 7, 88, [.sl 1 true [], .sl 1 true [], .int .i64 0, .int .i64 0, .int .i64 0, .int .i64 0, .int .i64 0], [(0, 1, false), (1, 1, false), (2, 5, true)], false⟩
  | 37 => some ⟨.int .i64, 1, 8, [.int .i64 0], [], false⟩
  | 53 => some ⟨.slice 135, 1, 24, [.sl 2 true []], [], false⟩
  | 54 => some ⟨.struct, 2, 32, [.int .i64 0, .sl 2 true []], [(0, 1, false), (1, 1, false)], false⟩
  | 55 => some ⟨.struct, 2, 32, [.int .i64 0, .sl 2 true []], [(0, 1, false), (1, 1, false)], false⟩
  | 56 => some ⟨.slice 111, 1, 24, [.sl 2 true []], [], false⟩
  | 57 => some ⟨.struct, 8, 104, [.int .i64 0, .int .i64 0, .int .i64 0, .int .i64 0, .int .i64 0, .sl 2 true [], .str ⟨#[]⟩, .sl 2 true []], [(0, 1, false), (1, 1, false), (2, 1, false), (3, 1, false), (4, 2, true), (6, 1, false), (7, 1, false)], false⟩
  | 58 => some ⟨.struct, 8, 104, [.int .i64 0, .int .i64 0, .int .i64 0, .int .i64 0, .int .i64 0, .sl 2 true [], .str ⟨#[]⟩, .sl 2 true []], [(0, 1, false), (1, 1, false), (2, 1, false), (3, 1, false), (4, 2, true), (6, 1, false), (7, 1, false)], false⟩
  | 62 => some ⟨.slice 32, 1, 24, [.sl 1 true []], [], false⟩
  | 65 => some ⟨.slice 37, 1, 24, [.sl 1 true []], [], false⟩
  | 78 => some ⟨.struct, 20, 272, [.int .i64 0, .int .i64 0, .int .i64 0, .sl 8 true [], .int .i64 0, .str ⟨#[]⟩, .str ⟨#[]⟩, .int .i64 0, .int .i64 0, .int .i64 0, .sl 1 true [], .sl 1 true [], .sl 1 true [], .sl 1 true [], .sl 1 true [], .int .i64 0, .int .i64 0, .int .i64 0, .int .i64 0, .int .i64 0], [(0, 4, true), (4, 7, true), (11, 1, false), (12, 1, false), (13, 7, true)], false⟩
  | 79 => some ⟨.struct, 20, 272, [.int .i64 0, .int .i64 0, .int .i64 0, .sl 8 true [], .int .i64 0, .str ⟨#[]⟩, .str ⟨#[]⟩, .int .i64 0, .int .i64 0, .int .i64 0, .sl 1 true [], .sl 1 true [], .sl 1 true [], .sl 1 true [], .sl 1 true [], .int .i64 0, .int .i64 0, .int .i64 0, .int .i64 0, .int .i64 0], [(0, 4, true), (4, 7, true), (11, 1, false), (12, 1, false), (13, 7, true)], false⟩
  | 85 => some ⟨.slice 2, 1, 24, [.sl 1 true []], [], false⟩
  | 93 => some ⟨.slice 3, 1, 24, [.sl 1 true []], [], false⟩
  | 101 => some ⟨.slice 29, 1, 24, [.sl 4 true []], [], false⟩
  | 110 => some ⟨.struct, 2, 24, [.str ⟨#[]⟩, .int .i64 0], [(0, 1, false), (1, 1, false)], true⟩
  | 111 => some ⟨.struct, 2, 24, [.str ⟨#[]⟩, .int .i64 0], [(0, 1, false), (1, 1, false)], true⟩
  | 134 => some ⟨.struct, 2, 32, [.int .i64 0, .sl 1 true []], [(0, 1, false), (1, 1, false)], false⟩
  | 135 => some ⟨.struct, 2, 32, [.int .i64 0, .sl 1 true []], [(0, 1, false), (1, 1, false)], false⟩
  | 190 => some ⟨.int .u64, 1, 8, [.int .u64 0], [], false⟩
  | 203 => some ⟨.int .u32, 1, 4, [.int .u32 0], [], false⟩
  | 209 => some ⟨.struct, 2, 2, [.int .u8 0, .int .u8 0], [(0, 1, false), (1, 1, false)], true⟩
  | 210 => some ⟨.struct, 2, 2, [.int .u8 0, .int .u8 0], [(0, 1, false), (1, 1, false)], true⟩
  | _ => none
theorem te_2 : te 2 = some ⟨.int .i64, 1, 8, [.int .i64 0], [], false⟩ := rfl
theorem te_3 : te 3 = some ⟨.int .i64, 1, 8, [.int .i64 0], [], false⟩ := rfl
theorem te_4 : te 4 = some ⟨.bool, 1, 1, [.bool false], [], false⟩ := rfl
theorem te_5 : te 5 = some ⟨.int .u8, 1, 1, [.int .u8 0], [], false⟩ := rfl
theorem te_6 : te 6 = some ⟨.int .u8, 1, 1, [.int .u8 0], [], false⟩ := rfl
theorem te_7 : te 7 = some ⟨.struct, 4, 24, [.int .i64 0, .int .i64 0, .bool false, .int .u8 0], [(0, 1, false), (1, 1, false), (2, 1, false), (3, 1, false)], true⟩ := rfl
theorem te_8 : te 8 = some ⟨.struct, 4, 24, [.int .i64 0, .int .i64 0, .bool false, .int .u8 0], [(0, 1, false), (1, 1, false), (2, 1, false), (3, 1, false)], true⟩ := rfl
theorem te_9 : te 9 = some ⟨.str, 1, 16, [.str ⟨#[]⟩], [], false⟩ := rfl
theorem te_10 : te 10 = some ⟨.str, 1, 16, [.str ⟨#[]⟩], [], false⟩ := rfl
theorem te_11 : te 11 = some ⟨.str, 1, 16, [.str ⟨#[]⟩], [], false⟩ := rfl
theorem te_12 : te 12 = some ⟨.int .u64, 1, 8, [.int .u64 0], [], false⟩ := rfl
theorem te_21 : te 21 = some ⟨.int .i32, 1, 4, [.int .i32 0], [], false⟩ := rfl
theorem te_22 : te 22 = some ⟨.slice 25, 1, 24, [.sl 7 true []], [], false⟩ := rfl
theorem te_23 : te 23 = some ⟨.slice 5, 1, 24, [.sl 1 true []], [], false⟩ := rfl
theorem te_24 : te 24 = some ⟨.struct, 7, 88, [.int .i64 0, .str ⟨#[]⟩, .str ⟨#[]⟩, .int .i64 0, .int .i64 0, .int .i64 0, .sl 1 true []], [(0, 1, false), (1, 1, false), (2, 1, false), (3, 1, false), (4, 1, false), (5, 1, false), (6, 1, false)], false⟩ := rfl
theorem te_25 : te 25 = some ⟨.struct, 7, 88, [.int .i64 0, .str ⟨#[]⟩, .str ⟨#[]⟩, .int .i64 0, .int .i64 0, .int .i64 0, .sl 1 true []], [(0, 1, false), (1, 1, false), (2, 1, false), (3, 1, false), (4, 1, false), (5, 1, false), (6, 1, false)], false⟩ := rfl
theorem te_27 : te 27 = some ⟨.slice 58, 1, 24, [.sl 8 true []], [], false⟩ := rfl
theorem te_28 : te 28 = some ⟨.struct, 4, 48, [.int .i64 0, .int .i64 0, .int .i64 0, .sl 8 true []], [(0, 1, false), (1, 1, false), (2, 1, false), (3, 1, false)], false⟩ := rfl
theorem te_29 : te 29 = some ⟨.struct, 4, 48, [.int .i64 0, .int .i64 0, .int .i64 0, .sl 8 true []], [(0, 1, false), (1, 1, false), (2, 1, false), (3, 1, false)], false⟩ := rfl
theorem te_32 : te 32 = some ⟨.slice 9, 1, 24, [.sl 1 true []], [], false⟩ := rfl
theorem te_33 : te 33 = some ⟨.struct, 5, 40, [.int .i64 0, .int .i64 0, .int .i64 0, .int .i64 0, .int .i64 0], [(0, 1, false), (1, 1, false), (2, 1, false), (3, 1, false), (4, 1, false)], true⟩ := rfl
theorem te_34 : te 34 = some ⟨.struct, 5, 40, [.int .i64 0, .int .i64 0, .int .i64 0, .int .i64 0, .int .i64 0], [(0, 1, false), (1, 1, false), (2, 1, false), (3, 1, false), (4, 1, false)], true⟩ := rfl
theorem te_35 : te 35 = some ⟨.struct, 7, 88, [.sl 1 true [], .sl 1 true [], .int .i64 0, .int .i64 0, .int .i64 0, .int .i64 0, .int .i64 0], [(0, 1, false), (1, 1, false), (2, 5, true)], false⟩ := rfl
theorem te_36 : te 36 = some ⟨.struct, 7, 88, [.sl 1 true [], .sl 1 true [], .int .i64 0, .int .i64 0, .int .i64 0, .int .i64 0, .int .i64 0], [(0, 1, false), (1, 1, false), (2, 5, true)], false⟩ := rfl
theorem te_37 : te 37 = some ⟨.int .i64, 1, 8, [.int .i64 0], [], false⟩ := rfl
theorem te_53 : te 53 = some ⟨.slice 135, 1, 24, [.sl 2 true []], [], false⟩ := rfl
theorem te_54 : te 54 = some ⟨.struct, 2, 32, [.int .i64 0, .sl 2 true []], [(0, 1, false), (1, 1, false)], false⟩ := rfl
theorem te_55 : te 55 = some ⟨.struct, 2, 32, [.int .i64 0, .sl 2 true []], [(0, 1, false), (1, 1, false)], false⟩ := rfl
theorem te_56 : te 56 = some ⟨.slice 111, 1, 24, [.sl 2 true []], [], false⟩ := rfl
theorem te_57 : te 57 = some ⟨.struct, 8, 104, [.int .i64 0, .int .i64 0, .int .i64 0, .int .i64 0, .int .i64 0, .sl 2 true [], .str ⟨#[]⟩, .sl 2 true []], [(0, 1, false), (1, 1, false), (2, 1, false), (3, 1, false), (4, 2, true), (6, 1, false), (7, 1, false)], false⟩ := rfl
theorem te_58 : te 58 = some ⟨.struct, 8, 104, [.int .i64 0, .int .i64 0, .int .i64 0, .int .i64 0, .int .i64 0, .sl 2 true [], .str ⟨#[]⟩, .sl 2 true []], [(0, 1, false), (1, 1, false), (2, 1, false), (3, 1, false), (4, 2, true), (6, 1, false), (7, 1, false)], false⟩ := rfl
theorem te_62 : te 62 = some ⟨.slice 32, 1, 24, [.sl 1 true []], [], false⟩ := rfl
theorem te_65 : te 65 = some ⟨.slice 37, 1, 24, [.sl 1 true []], [], false⟩ := rfl
theorem te_78 : te 78 = some ⟨.struct, 20, 272, [.int .i64 0, .int .i64 0, .int .i64 0, .sl 8 true [], .int .i64 0, .str ⟨#[]⟩, .str ⟨#[]⟩, .int .i64 0, .int .i64 0, .int .i64 0, .sl 1 true [], .sl 1 true [], .sl 1 true [], .sl 1 true [], .sl 1 true [], .int .i64 0, .int .i64 0, .int .i64 0, .int .i64 0, .int .i64 0], [(0, 4, true), (4, 7, true), (11, 1, false), (12, 1, false), (13, 7, true)], false⟩ := rfl
theorem te_79 : te 79 = some ⟨.struct, 20, 272, [.int .i64 0, .int .i64 0, .int .i64 0, .sl 8 true [], .int .i64 0, .str ⟨#[]⟩, .str ⟨#[]⟩, .int .i64 0, .int .i64 0, .int .i64 0, .sl 1 true [], .sl 1 true [], .sl 1 true [], .sl 1 true [], .sl 1 true [], .int .i64 0, .int .i64 0, .int .i64 0, .int .i64 0, .int .i64 0], [(0, 4, true), (4, 7, true), (11, 1, false), (12, 1, false), (13, 7, true)], false⟩ := rfl
theorem te_85 : te 85 = some ⟨.slice 2, 1, 24, [.sl 1 true []], [], false⟩ := rfl
theorem te_93 : te 93 = some ⟨.slice 3, 1, 24, [.sl 1 true []], [], false⟩ := rfl
theorem te_101 : te 101 = some ⟨.slice 29, 1, 24, [.sl 4 true []], [], false⟩ := rfl
theorem te_110 : te 110 = some ⟨.struct, 2, 24, [.str ⟨#[]⟩, .int .i64 0], [(0, 1, false), (1, 1, false)], true⟩ := rfl
theorem te_111 : te 111 = some ⟨.struct, 2, 24, [.str ⟨#[]⟩, .int .i64 0], [(0, 1, false), (1, 1, false)], true⟩ := rfl
theorem te_134 : te 134 = some ⟨.struct, 2, 32, [.int .i64 0, .sl 1 true []], [(0, 1, false), (1, 1, false)], false⟩ := rfl
theorem te_135 : te 135 = some ⟨.struct, 2, 32, [.int .i64 0, .sl 1 true []], [(0, 1, false), (1, 1, false)], false⟩ := rfl
theorem te_190 : te 190 = some ⟨.int .u64, 1, 8, [.int .u64 0], [], false⟩ := rfl
theorem te_203 : te 203 = some ⟨.int .u32, 1, 4, [.int .u32 0], [], false⟩ := rfl
theorem te_209 : te 209 = some ⟨.struct, 2, 2, [.int .u8 0, .int .u8 0], [(0, 1, false), (1, 1, false)], true⟩ := rfl
theorem te_210 : te 210 = some ⟨.struct, 2, 2, [.int .u8 0, .int .u8 0], [(0, 1, false), (1, 1, false)], true⟩ := rfl
theorem tiok_2 : tiOK Tryz.prog 2 ⟨.int .i64, 1, 8, [.int .i64 0], [], false⟩ = true := by kernel_rfl
theorem tiok_3 : tiOK Tryz.prog 3 ⟨.int .i64, 1, 8, [.int .i64 0], [], false⟩ = true := by kernel_rfl
theorem tiok_4 : tiOK Tryz.prog 4 ⟨.bool, 1, 1, [.bool false], [], false⟩ = true := by kernel_rfl
theorem tiok_5 : tiOK Tryz.prog 5 ⟨.int .u8, 1, 1, [.int .u8 0], [], false⟩ = true := by kernel_rfl
theorem tiok_6 : tiOK Tryz.prog 6 ⟨.int .u8, 1, 1, [.int .u8 0], [], false⟩ = true := by kernel_rfl
theorem tiok_7 : tiOK Tryz.prog 7 ⟨.struct, 4, 24, [.int .i64 0, .int .i64 0, .bool false, .int .u8 0], [(0, 1, false), (1, 1, false), (2, 1, false), (3, 1, false)], true⟩ = true := by kernel_rfl
theorem tiok_8 : tiOK Tryz.prog 8 ⟨.struct, 4, 24, [.int .i64 0, .int .i64 0, .bool false, .int .u8 0], [(0, 1, false), (1, 1, false), (2, 1, false), (3, 1, false)], true⟩ = true := by kernel_rfl
theorem tiok_9 : tiOK Tryz.prog 9 ⟨.str, 1, 16, [.str ⟨#[]⟩], [], false⟩ = true := by kernel_rfl
theorem tiok_10 : tiOK Tryz.prog 10 ⟨.str, 1, 16, [.str ⟨#[]⟩], [], false⟩ = true := by kernel_rfl
theorem tiok_11 : tiOK Tryz.prog 11 ⟨.str, 1, 16, [.str ⟨#[]⟩], [], false⟩ = true := by kernel_rfl
theorem tiok_12 : tiOK Tryz.prog 12 ⟨.int .u64, 1, 8, [.int .u64 0], [], false⟩ = true := by kernel_rfl
theorem tiok_21 : tiOK Tryz.prog 21 ⟨.int .i32, 1, 4, [.int .i32 0], [], false⟩ = true := by kernel_rfl
theorem tiok_22 : tiOK Tryz.prog 22 ⟨.slice 25, 1, 24, [.sl 7 true []], [], false⟩ = true := by kernel_rfl
theorem tiok_23 : tiOK Tryz.prog 23 ⟨.slice 5, 1, 24, [.sl 1 true []], [], false⟩ = true := by kernel_rfl
theorem tiok_24 : tiOK Tryz.prog 24 ⟨.struct, 7, 88, [.int .i64 0, .str ⟨#[]⟩, .str ⟨#[]⟩, .int .i64 0, .int .i64 0, .int .i64 0, .sl 1 true []], [(0, 1, false), (1, 1, false), (2, 1, false), (3, 1, false), (4, 1, false), (5, 1, false), (6, 1, false)], false⟩ = true := by kernel_rfl
theorem tiok_25 : tiOK Tryz.prog 25 ⟨.struct, 7, 88, [.int .i64 0, .str ⟨#[]⟩, .str ⟨#[]⟩, .int .i64 0, .int .i64 0, .int .i64 0, .sl 1 true []], [(0, 1, false), (1, 1, false), (2, 1, false), (3, 1, false), (4, 1, false), (5, 1, false), (6, 1, false)], false⟩ = true := by kernel_rfl
theorem tiok_27 : tiOK Tryz.prog 27 ⟨.slice 58, 1, 24, [.sl 8 true []], [], false⟩ = true := by kernel_rfl
theorem tiok_28 : tiOK Tryz.prog 28 ⟨.struct, 4, 48, [.int .i64 0, .int .i64 0, .int .i64 0, .sl 8 true []], [(0, 1, false), (1, 1, false), (2, 1, false), (3, 1, false)], false⟩ = true := by kernel_rfl
theorem tiok_29 : tiOK Tryz.prog 29 ⟨.struct, 4, 48, [.int .i64 0, .int .i64 0, .int .i64 0, .sl 8 true []], [(0, 1, false), (1, 1, false), (2, 1, false), (3, 1, false)], false⟩ = true := by kernel_rfl
theorem tiok_32 : tiOK Tryz.prog 32 ⟨.slice 9, 1, 24, [.sl 1 true []], [], false⟩ = true := by kernel_rfl
theorem tiok_33 : tiOK Tryz.prog 33 ⟨.struct, 5, 40, [.int .i64 0, .int .i64 0, .int .i64 0, .int .i64 0, .int .i64 0], [(0, 1, false), (1, 1, false), (2, 1, false), (3, 1, false), (4, 1, false)], true⟩ = true := by kernel_rfl
theorem tiok_34 : tiOK Tryz.prog 34 ⟨.struct, 5, 40, [.int .i64 0, .int .i64 0, .int .i64 0, .int .i64 0, .int .i64 0], [(0, 1, false), (1, 1, false), (2, 1, false), (3, 1, false), (4, 1, false)], true⟩ = true := by kernel_rfl
theorem tiok_35 : tiOK Tryz.prog 35 ⟨.struct, 7, 88, [.sl 1 true [], .sl 1 true [], .int .i64 0, .int .i64 0, .int .i64 0, .int .i64 0, .int .i64 0], [(0, 1, false), (1, 1, false), (2, 5, true)], false⟩ = true := by kernel_rfl
theorem tiok_36 : tiOK Tryz.prog 36 ⟨.struct, 7, 88, [.sl 1 true [], .sl 1 true [], .int .i64 0, .int .i64 0, .int .i64 0, .int .i64 0, .int .i64 0], [(0, 1, false), (1, 1, false), (2, 5, true)], false⟩ = true := by kernel_rfl
theorem tiok_37 : tiOK Tryz.prog 37 ⟨.int .i64, 1, 8, [.int .i64 0], [], false⟩ = true := by kernel_rfl
theorem tiok_53 : tiOK Tryz.prog 53 ⟨.slice 135, 1, 24, [.sl 2 true []], [], false⟩ = true := by kernel_rfl
theorem tiok_54 : tiOK Tryz.prog 54 ⟨.struct, 2, 32, [.int .i64 0, .sl 2 true []], [(0, 1, false), (1, 1, false)], false⟩ = true := by kernel_rfl
theorem tiok_55 : tiOK Tryz.prog 55 ⟨.struct, 2, 32, [.int .i64 0, .sl 2 true []], [(0, 1, false), (1, 1, false)], false⟩ = true := by kernel_rfl
theorem tiok_56 : tiOK Tryz.prog 56 ⟨.slice 111, 1, 24, [.sl 2 true []], [], false⟩ = true := by kernel_rfl
theorem tiok_57 : tiOK Tryz.prog 57 ⟨.struct, 8, 104, [.int .i64 0, .int .i64 0, .int .i64 0, .int .i64 0, .int .i64 0, .sl 2 true [], .str ⟨#[]⟩, .sl 2 true []], [(0, 1, false), (1, 1, false), (2, 1, false), (3, 1, false), (4, 2, true), (6, 1, false), (7, 1, false)], false⟩ = true := by kernel_rfl
theorem tiok_58 : tiOK Tryz.prog 58 ⟨.struct, 8, 104, [.int .i64 0, .int .i64 0, .int .i64 0, .int .i64 0, .int .i64 0, .sl 2 true [], .str ⟨#[]⟩, .sl 2 true []], [(0, 1, false), (1, 1, false), (2, 1, false), (3, 1, false), (4, 2, true), (6, 1, false), (7, 1, false)], false⟩ = true := by kernel_rfl
theorem tiok_62 : tiOK Tryz.prog 62 ⟨.slice 32, 1, 24, [.sl 1 true []], [], false⟩ = true := by kernel_rfl
theorem tiok_65 : tiOK Tryz.prog 65 ⟨.slice 37, 1, 24, [.sl 1 true []], [], false⟩ = true := by kernel_rfl
theorem tiok_78 : tiOK Tryz.prog 78 ⟨.struct, 20, 272, [.int .i64 0, .int .i64 0, .int .i64 0, .sl 8 true [], .int .i64 0, .str ⟨#[]⟩, .str ⟨#[]⟩, .int .i64 0, .int .i64 0, .int .i64 0, .sl 1 true [], .sl 1 true [], .sl 1 true [], .sl 1 true [], .sl 1 true [], .int .i64 0, .int .i64 0, .int .i64 0, .int .i64 0, .int .i64 0], [(0, 4, true), (4, 7, true), (11, 1, false), (12, 1, false), (13, 7, true)], false⟩ = true := by kernel_rfl
theorem tiok_79 : tiOK Tryz.prog 79 ⟨.struct, 20, 272, [.int .i64 0, .int .i64 0, .int .i64 0, .sl 8 true [], .int .i64 0, .str ⟨#[]⟩, .str ⟨#[]⟩, .int .i64 0, .int .i64 0, .int .i64 0, .sl 1 true [], .sl 1 true [], .sl 1 true [], .sl 1 true [], .sl 1 true [], .int .i64 0, .int .i64 0, .int .i64 0, .int .i64 0, .int .i64 0], [(0, 4, true), (4, 7, true), (11, 1, false), (12, 1, false), (13, 7, true)], false⟩ = true := by kernel_rfl
theorem tiok_85 : tiOK Tryz.prog 85 ⟨.slice 2, 1, 24, [.sl 1 true []], [], false⟩ = true := by kernel_rfl
theorem tiok_93 : tiOK Tryz.prog 93 ⟨.slice 3, 1, 24, [.sl 1 true []], [], false⟩ = true := by kernel_rfl
theorem tiok_101 : tiOK Tryz.prog 101 ⟨.slice 29, 1, 24, [.sl 4 true []], [], false⟩ = true := by kernel_rfl
theorem tiok_110 : tiOK Tryz.prog 110 ⟨.struct, 2, 24, [.str ⟨#[]⟩, .int .i64 0], [(0, 1, false), (1, 1, false)], true⟩ = true := by kernel_rfl
theorem tiok_111 : tiOK Tryz.prog 111 ⟨.struct, 2, 24, [.str ⟨#[]⟩, .int .i64 0], [(0, 1, false), (1, 1, false)], true⟩ = true := by kernel_rfl
theorem tiok_134 : tiOK Tryz.prog 134 ⟨.struct, 2, 32, [.int .i64 0, .sl 1 true []], [(0, 1, false), (1, 1, false)], false⟩ = true := by kernel_rfl
theorem tiok_135 : tiOK Tryz.prog 135 ⟨.struct, 2, 32, [.int .i64 0, .sl 1 true []], [(0, 1, false), (1, 1, false)], false⟩ = true := by kernel_rfl
theorem tiok_190 : tiOK Tryz.prog 190 ⟨.int .u64, 1, 8, [.int .u64 0], [], false⟩ = true := by kernel_rfl
theorem tiok_203 : tiOK Tryz.prog 203 ⟨.int .u32, 1, 4, [.int .u32 0], [], false⟩ = true := by kernel_rfl
theorem tiok_209 : tiOK Tryz.prog 209 ⟨.struct, 2, 2, [.int .u8 0, .int .u8 0], [(0, 1, false), (1, 1, false)], true⟩ = true := by kernel_rfl
theorem tiok_210 : tiOK Tryz.prog 210 ⟨.struct, 2, 2, [.int .u8 0, .int .u8 0], [(0, 1, false), (1, 1, false)], true⟩ = true := by kernel_rfl
theorem te_ok : TEok Tryz.prog te := by
  intro t i h
  unfold te at h
  split at h
  · cases h; exact tiok_2
  · cases h; exact tiok_3
  · cases h; exact tiok_4
  · cases h; exact tiok_5
  · cases h; exact tiok_6
  · cases h; exact tiok_7
  · cases h; exact tiok_8
  · cases h; exact tiok_9
  · cases h; exact tiok_10
  · cases h; exact tiok_11
  · cases h; exact tiok_12
  · cases h; exact tiok_21
  · cases h; exact tiok_22
  · cases h; exact tiok_23
  · cases h; exact tiok_24
  · cases h; exact tiok_25
  · cases h; exact tiok_27
  · cases h; exact tiok_28
  · cases h; exact tiok_29
  · cases h; exact tiok_32
  · cases h; exact tiok_33
  · cases h; exact tiok_34
  · cases h; exact tiok_35
  · cases h; exact tiok_36
  · cases h; exact tiok_37
  · cases h; exact tiok_53
  · cases h; exact tiok_54
  · cases h; exact tiok_55
  · cases h; exact tiok_56
  · cases h; exact tiok_57
  · cases h; exact tiok_58
  · cases h; exact tiok_62
  · cases h; exact tiok_65
  · cases h; exact tiok_78
  · cases h; exact tiok_79
  · cases h; exact tiok_85
  · cases h; exact tiok_93
  · cases h; exact tiok_101
  · cases h; exact tiok_110
  · cases h; exact tiok_111
  · cases h; exact tiok_134
  · cases h; exact tiok_135
  · cases h; exact tiok_190
  · cases h; exact tiok_203
  · cases h; exact tiok_209
  · cases h; exact tiok_210
  · cases h
theorem mixed : Tryz.prog.follows .mixedOrders = true := by kernel_rfl
end Go.Proofs.YtdojencjbmahpaaGreatDoor
end
/-
  LIBRARY FUNCTIONS of the seat: clones, slices.Insert, slices.Delete, and the model's own entries.
-/
section
namespace Go.Proofs.YtdojencjbmahpaaGreatDoor
open Go.Rf
set_option maxRecDepth 100000
theorem v173 (fr : Bool) (es : List (List AV)) (H : List Ent) (Φ : AV → List Ent → Prop) : wFun te (fun _ => none) Tryz.f173 [.sl 8 fr es] H Φ =
  (∀ b : Bool, (b = true → es = []) → ifB b (Φ (.sl 8 true []) H) (((fits 8 8 es = true ∧ fits 8 8 [] = true) ∧ (([] : List (List AV)) = [] ∨ es ≠ []) ∧ room (0 + es.length) 104) ∧ Φ (.own H.length 1 (0 + es.length)) (setH H H.length (.arr true 1 8 none ([] ++ es))))) := by kernel_rfl
theorem clone_173 : SpecSound Tryz.prog 173 (XS.spec (.gen (xClone 8 104))) := clone_sound te_ok mixed (f := 173) (fn := Tryz.f173) ⟨Tryz.func173, by kernel_rfl, by kernel_rfl⟩ (by decide) v173
theorem v160 (fr : Bool) (es : List (List AV)) (H : List Ent) (Φ : AV → List Ent → Prop) : wFun te (fun _ => none) Tryz.f160 [.sl 2 fr es] H Φ =
  (∀ b : Bool, (b = true → es = []) → ifB b (Φ (.sl 2 true []) H) (((fits 2 2 es = true ∧ fits 2 2 [] = true) ∧ (([] : List (List AV)) = [] ∨ es ≠ []) ∧ room (0 + es.length) 24) ∧ Φ (.own H.length 1 (0 + es.length)) (setH H H.length (.arr true 1 2 none ([] ++ es))))) := by kernel_rfl
theorem clone_160 : SpecSound Tryz.prog 160 (XS.spec (.gen (xClone 2 24))) := clone_sound te_ok mixed (f := 160) (fn := Tryz.f160) ⟨Tryz.func160, by kernel_rfl, by kernel_rfl⟩ (by decide) v160
theorem v180 (fr : Bool) (es : List (List AV)) (H : List Ent) (Φ : AV → List Ent → Prop) : wFun te (fun _ => none) Tryz.f180 [.sl 2 fr es] H Φ =
  (∀ b : Bool, (b = true → es = []) → ifB b (Φ (.sl 2 true []) H) (((fits 2 2 es = true ∧ fits 2 2 [] = true) ∧ (([] : List (List AV)) = [] ∨ es ≠ []) ∧ room (0 + es.length) 32) ∧ Φ (.own H.length 1 (0 + es.length)) (setH H H.length (.arr true 1 2 none ([] ++ es))))) := by kernel_rfl
theorem clone_180 : SpecSound Tryz.prog 180 (XS.spec (.gen (xClone 2 32))) := clone_sound te_ok mixed (f := 180) (fn := Tryz.f180) ⟨Tryz.func180, by kernel_rfl, by kernel_rfl⟩ (by decide) v180
theorem v181 (fr : Bool) (es : List (List AV)) (H : List Ent) (Φ : AV → List Ent → Prop) : wFun te (fun _ => none) Tryz.f181 [.sl 1 fr es] H Φ =
  (∀ b : Bool, (b = true → es = []) → ifB b (Φ (.sl 1 true []) H) (((fits 1 1 es = true ∧ fits 1 1 [] = true) ∧ (([] : List (List AV)) = [] ∨ es ≠ []) ∧ room (0 + es.length) 1) ∧ Φ (.own H.length 1 (0 + es.length)) (setH H H.length (.arr true 1 1 none ([] ++ es))))) := by kernel_rfl
theorem clone_181 : SpecSound Tryz.prog 181 (XS.spec (.gen (xClone 1 1))) := clone_sound te_ok mixed (f := 181) (fn := Tryz.f181) ⟨Tryz.func181, by kernel_rfl, by kernel_rfl⟩ (by decide) v181
theorem v163 (fr : Bool) (es : List (List AV)) (H : List Ent) (Φ : AV → List Ent → Prop) : wFun te (fun _ => none) Tryz.f163 [.sl 1 fr es] H Φ =
  (∀ b : Bool, (b = true → es = []) → ifB b (Φ (.sl 1 true []) H) (((fits 1 1 es = true ∧ fits 1 1 [] = true) ∧ (([] : List (List AV)) = [] ∨ es ≠ []) ∧ room (0 + es.length) 1) ∧ Φ (.own H.length 1 (0 + es.length)) (setH H H.length (.arr true 1 1 none ([] ++ es))))) := by kernel_rfl
theorem clone_163 : SpecSound Tryz.prog 163 (XS.spec (.gen (xClone 1 1))) := clone_sound te_ok mixed (f := 163) (fn := Tryz.f163) ⟨Tryz.func163, by kernel_rfl, by kernel_rfl⟩ (by decide) v163
theorem ov_174 : GSound Tryz.prog 174 gOv := overlaps_sound (fn := Tryz.f174) (tS := 27) (tR := 4) (e := 58) (size := 8) (by kernel_rfl) (by kernel_rfl) (by kernel_rfl) (by kernel_rfl) (by kernel_rfl) (by kernel_rfl) (fun w => by kernel_rfl)
theorem v149 (v : Nat) (i : Int) (z : Nat) (fr : Bool) (es vs : List (List AV)) (Φ : AV → List Ent → Prop) : wFun te (ovEnv 174) Tryz.f149 [.own 0 v es.length, .int .i64 i, .sl z fr vs] [.arr true v 8 none es] Φ = insF te 27 58 8 104 v i z fr es vs Φ := by kernel_rfl
theorem insert_149 : SpecSound Tryz.prog 149 (XS.spec (.gen (xLend (xIns 8 104) 8))) := insert_sound te_ok mixed (f := 149) (fn := Tryz.f149) ⟨Tryz.func149, by kernel_rfl, by kernel_rfl⟩ ov_174 (by decide) (by decide) v149
theorem ov_176 : GSound Tryz.prog 176 gOv := overlaps_sound (fn := Tryz.f176) (tS := 56) (tR := 4) (e := 111) (size := 2) (by kernel_rfl) (by kernel_rfl) (by kernel_rfl) (by kernel_rfl) (by kernel_rfl) (by kernel_rfl) (fun w => by kernel_rfl)
theorem v150 (v : Nat) (i : Int) (z : Nat) (fr : Bool) (es vs : List (List AV)) (Φ : AV → List Ent → Prop) : wFun te (ovEnv 176) Tryz.f150 [.own 0 v es.length, .int .i64 i, .sl z fr vs] [.arr true v 2 none es] Φ = insF te 56 111 2 24 v i z fr es vs Φ := by kernel_rfl
theorem insert_150 : SpecSound Tryz.prog 150 (XS.spec (.gen (xLend (xIns 2 24) 2))) := insert_sound te_ok mixed (f := 150) (fn := Tryz.f150) ⟨Tryz.func150, by kernel_rfl, by kernel_rfl⟩ ov_176 (by decide) (by decide) v150
theorem v151 (v : Nat) (i j : Int) (es : List (List AV)) (Φ : AV → List Ent → Prop) : wFun te (fun _ => none) Tryz.f151 [.own 0 v es.length, .int .i64 i, .int .i64 j] [.arr true v 2 none es] Φ = delF te 56 111 2 24 v i j es Φ := by kernel_rfl
theorem delete_151 : SpecSound Tryz.prog 151 (XS.spec (.gen (xLend xDel 2))) := delete_sound te_ok mixed (f := 151) (fn := Tryz.f151) ⟨Tryz.func151, by kernel_rfl, by kernel_rfl⟩ v151
theorem v152 (v : Nat) (i j : Int) (es : List (List AV)) (Φ : AV → List Ent → Prop) : wFun te (fun _ => none) Tryz.f152 [.own 0 v es.length, .int .i64 i, .int .i64 j] [.arr true v 8 none es] Φ = delF te 27 58 8 104 v i j es Φ := by kernel_rfl
theorem delete_152 : SpecSound Tryz.prog 152 (XS.spec (.gen (xLend xDel 8))) := delete_sound te_ok mixed (f := 152) (fn := Tryz.f152) ⟨Tryz.func152, by kernel_rfl, by kernel_rfl⟩ v152
theorem ext_172 : SpecSound Tryz.prog 172 (XS.spec (.dat xCount)) := count_sound (fn := Tryz.f172) (by kernel_rfl) (by kernel_rfl) (by kernel_rfl) (by kernel_rfl) (by kernel_rfl)
theorem ext_186 : SpecSound Tryz.prog 186 (XS.spec (.dat xIndexB)) := indexB_sound (fn := Tryz.f186) (by kernel_rfl) (by kernel_rfl) (by kernel_rfl) (by kernel_rfl) (by kernel_rfl)
end Go.Proofs.YtdojencjbmahpaaGreatDoor
end
/-
  WHAT IS RUN: the functions of the third seat, each by its own text.
-/
section
namespace Go.Proofs.YtdojencjbmahpaaGreatDoor
open Go.Rf
set_option maxRecDepth 100000
theorem rnFun_134 : IsFun Tryz.prog 134 Tryz.f134 := ⟨Tryz.func134, by kernel_rfl, by kernel_rfl⟩
theorem stat_134 : codeStat (Tryz.f134.body.getD .skip) = true := by kernel_rfl
theorem rnFun_149 : IsFun Tryz.prog 149 Tryz.f149 := ⟨Tryz.func149, by kernel_rfl, by kernel_rfl⟩
theorem stat_149 : codeStat (Tryz.f149.body.getD .skip) = true := by kernel_rfl
noncomputable def tB (X : XE) : XE := fun f => match f with
  | 133 => X 133
  | 148 => X 148
  | 134 => some (.dat (fKeep 7 te X 400 Tryz.f134))
  | 149 => some (.gen (fFun te (fun _ => none) 400 Tryz.f149))
  | _ => none
theorem tB_sound {X : XE} (hX : Sound Tryz.prog X.env) : Sound Tryz.prog (tB X).env := by
    intro f sp h
    unfold XE.env at h
    generalize hx : tB X f = ox at h
    unfold tB at hx
    split at hx
    · exact hX _ _ (env_of h hx)
    · exact hX _ _ (env_of h hx)
    · subst hx; cases h; exact fKeep_sound 7 te_ok hX mixed rnFun_134 stat_134 400
    · subst hx; cases h; exact fGen_sound te_ok none_sound mixed rnFun_149 stat_149 400
    · subst hx; cases h
theorem rnFun_128 : IsFun Tryz.prog 128 Tryz.f128 := ⟨Tryz.func128, by kernel_rfl, by kernel_rfl⟩
theorem stat_128 : codeStat (Tryz.f128.body.getD .skip) = true := by kernel_rfl
noncomputable def tA (X : XE) : XE := fun f => match f with
  | 128 => some (.gen (fFun te (tB X) 400 Tryz.f128))
  | 132 => X 132
  | 151 => X 151
  | _ => none
theorem tA_sound {X : XE} (hX : Sound Tryz.prog X.env) : Sound Tryz.prog (tA X).env := by
    intro f sp h
    unfold XE.env at h
    generalize hx : tA X f = ox at h
    unfold tA at hx
    split at hx
    · subst hx; cases h; exact fGen_sound te_ok (tB_sound hX) mixed rnFun_128 stat_128 400
    · exact hX _ _ (env_of h hx)
    · exact hX _ _ (env_of h hx)
    · subst hx; cases h
theorem rnFun_130 : IsFun Tryz.prog 130 Tryz.f130 := ⟨Tryz.func130, by kernel_rfl, by kernel_rfl⟩
theorem stat_130 : codeStat (Tryz.f130.body.getD .skip) = true := by kernel_rfl
noncomputable def tW (X : XE) : XE := fun f => match f with
  | 130 => some (.gen (fFun te (tA X) 400 Tryz.f130))
  | 132 => X 132
  | 150 => X 150
  | _ => none
theorem tW_sound {X : XE} (hX : Sound Tryz.prog X.env) : Sound Tryz.prog (tW X).env := by
    intro f sp h
    unfold XE.env at h
    generalize hx : tW X f = ox at h
    unfold tW at hx
    split at hx
    · subst hx; cases h; exact fGen_sound te_ok (tA_sound hX) mixed rnFun_130 stat_130 400
    · exact hX _ _ (env_of h hx)
    · exact hX _ _ (env_of h hx)
    · subst hx; cases h
theorem rnFun_133 : IsFun Tryz.prog 133 Tryz.f133 := ⟨Tryz.func133, by kernel_rfl, by kernel_rfl⟩
theorem stat_133 : codeStat (Tryz.f133.body.getD .skip) = true := by kernel_rfl
theorem rnFun_157 : IsFun Tryz.prog 157 Tryz.f157 := ⟨Tryz.func157, by kernel_rfl, by kernel_rfl⟩
theorem stat_157 : codeStat (Tryz.f157.body.getD .skip) = true := by kernel_rfl
theorem rnFun_158 : IsFun Tryz.prog 158 Tryz.f158 := ⟨Tryz.func158, by kernel_rfl, by kernel_rfl⟩
theorem stat_158 : codeStat (Tryz.f158.body.getD .skip) = true := by kernel_rfl
theorem rnFun_179 : IsFun Tryz.prog 179 Tryz.f179 := ⟨Tryz.func179, by kernel_rfl, by kernel_rfl⟩
theorem stat_179 : codeStat (Tryz.f179.body.getD .skip) = true := by kernel_rfl
theorem rnFun_155 : IsFun Tryz.prog 155 Tryz.f155 := ⟨Tryz.func155, by kernel_rfl, by kernel_rfl⟩
theorem stat_155 : codeStat (Tryz.f155.body.getD .skip) = true := by kernel_rfl
theorem rnFun_178 : IsFun Tryz.prog 178 Tryz.f178 := ⟨Tryz.func178, by kernel_rfl, by kernel_rfl⟩
theorem stat_178 : codeStat (Tryz.f178.body.getD .skip) = true := by kernel_rfl
theorem rnFun_156 : IsFun Tryz.prog 156 Tryz.f156 := ⟨Tryz.func156, by kernel_rfl, by kernel_rfl⟩
theorem stat_156 : codeStat (Tryz.f156.body.getD .skip) = true := by kernel_rfl
theorem rnFun_153 : IsFun Tryz.prog 153 Tryz.f153 := ⟨Tryz.func153, by kernel_rfl, by kernel_rfl⟩
theorem stat_153 : codeStat (Tryz.f153.body.getD .skip) = true := by kernel_rfl
theorem rnFun_154 : IsFun Tryz.prog 154 Tryz.f154 := ⟨Tryz.func154, by kernel_rfl, by kernel_rfl⟩
theorem stat_154 : codeStat (Tryz.f154.body.getD .skip) = true := by kernel_rfl
theorem rnFun_132 : IsFun Tryz.prog 132 Tryz.f132 := ⟨Tryz.func132, by kernel_rfl, by kernel_rfl⟩
theorem stat_132 : codeStat (Tryz.f132.body.getD .skip) = true := by kernel_rfl
theorem rnFun_159 : IsFun Tryz.prog 159 Tryz.f159 := ⟨Tryz.func159, by kernel_rfl, by kernel_rfl⟩
theorem stat_159 : codeStat (Tryz.f159.body.getD .skip) = true := by kernel_rfl
theorem rnFun_102 : IsFun Tryz.prog 102 Tryz.f102 := ⟨Tryz.func102, by kernel_rfl, by kernel_rfl⟩
theorem stat_102 : codeStat (Tryz.f102.body.getD .skip) = true := by kernel_rfl
theorem rnFun_127 : IsFun Tryz.prog 127 Tryz.f127 := ⟨Tryz.func127, by kernel_rfl, by kernel_rfl⟩
theorem stat_127 : codeStat (Tryz.f127.body.getD .skip) = true := by kernel_rfl
theorem rnFun_131 : IsFun Tryz.prog 131 Tryz.f131 := ⟨Tryz.func131, by kernel_rfl, by kernel_rfl⟩
theorem stat_131 : codeStat (Tryz.f131.body.getD .skip) = true := by kernel_rfl
theorem rnFun_126 : IsFun Tryz.prog 126 Tryz.f126 := ⟨Tryz.func126, by kernel_rfl, by kernel_rfl⟩
theorem stat_126 : codeStat (Tryz.f126.body.getD .skip) = true := by kernel_rfl
theorem rnFun_100 : IsFun Tryz.prog 100 Tryz.f100 := ⟨Tryz.func100, by kernel_rfl, by kernel_rfl⟩
theorem stat_100 : codeStat (Tryz.f100.body.getD .skip) = true := by kernel_rfl
theorem rnFun_96 : IsFun Tryz.prog 96 Tryz.f96 := ⟨Tryz.func96, by kernel_rfl, by kernel_rfl⟩
theorem stat_96 : codeStat (Tryz.f96.body.getD .skip) = true := by kernel_rfl
theorem rnFun_99 : IsFun Tryz.prog 99 Tryz.f99 := ⟨Tryz.func99, by kernel_rfl, by kernel_rfl⟩
theorem stat_99 : codeStat (Tryz.f99.body.getD .skip) = true := by kernel_rfl
theorem rnFun_98 : IsFun Tryz.prog 98 Tryz.f98 := ⟨Tryz.func98, by kernel_rfl, by kernel_rfl⟩
theorem stat_98 : codeStat (Tryz.f98.body.getD .skip) = true := by kernel_rfl
theorem rnFun_105 : IsFun Tryz.prog 105 Tryz.f105 := ⟨Tryz.func105, by kernel_rfl, by kernel_rfl⟩
theorem stat_105 : codeStat (Tryz.f105.body.getD .skip) = true := by kernel_rfl
theorem rnFun_97 : IsFun Tryz.prog 97 Tryz.f97 := ⟨Tryz.func97, by kernel_rfl, by kernel_rfl⟩
theorem stat_97 : codeStat (Tryz.f97.body.getD .skip) = true := by kernel_rfl
theorem rnFun_95 : IsFun Tryz.prog 95 Tryz.f95 := ⟨Tryz.func95, by kernel_rfl, by kernel_rfl⟩
theorem stat_95 : codeStat (Tryz.f95.body.getD .skip) = true := by kernel_rfl
theorem rnFun_21 : IsFun Tryz.prog 21 Tryz.f21 := ⟨Tryz.func21, by kernel_rfl, by kernel_rfl⟩
theorem stat_21 : codeStat (Tryz.f21.body.getD .skip) = true := by kernel_rfl
theorem rnFun_18 : IsFun Tryz.prog 18 Tryz.f18 := ⟨Tryz.func18, by kernel_rfl, by kernel_rfl⟩
theorem stat_18 : codeStat (Tryz.f18.body.getD .skip) = true := by kernel_rfl
theorem rnFun_29 : IsFun Tryz.prog 29 Tryz.f29 := ⟨Tryz.func29, by kernel_rfl, by kernel_rfl⟩
theorem stat_29 : codeStat (Tryz.f29.body.getD .skip) = true := by kernel_rfl
theorem rnFun_56 : IsFun Tryz.prog 56 Tryz.f56 := ⟨Tryz.func56, by kernel_rfl, by kernel_rfl⟩
theorem stat_56 : codeStat (Tryz.f56.body.getD .skip) = true := by kernel_rfl
theorem rnFun_57 : IsFun Tryz.prog 57 Tryz.f57 := ⟨Tryz.func57, by kernel_rfl, by kernel_rfl⟩
theorem stat_57 : codeStat (Tryz.f57.body.getD .skip) = true := by kernel_rfl
theorem rnFun_88 : IsFun Tryz.prog 88 Tryz.f88 := ⟨Tryz.func88, by kernel_rfl, by kernel_rfl⟩
theorem stat_88 : codeStat (Tryz.f88.body.getD .skip) = true := by kernel_rfl
theorem rnFun_43 : IsFun Tryz.prog 43 Tryz.f43 := ⟨Tryz.func43, by kernel_rfl, by kernel_rfl⟩
theorem stat_43 : codeStat (Tryz.f43.body.getD .skip) = true := by kernel_rfl
theorem rnFun_54 : IsFun Tryz.prog 54 Tryz.f54 := ⟨Tryz.func54, by kernel_rfl, by kernel_rfl⟩
theorem stat_54 : codeStat (Tryz.f54.body.getD .skip) = true := by kernel_rfl
theorem rnFun_40 : IsFun Tryz.prog 40 Tryz.f40 := ⟨Tryz.func40, by kernel_rfl, by kernel_rfl⟩
theorem stat_40 : codeStat (Tryz.f40.body.getD .skip) = true := by kernel_rfl
theorem rnFun_63 : IsFun Tryz.prog 63 Tryz.f63 := ⟨Tryz.func63, by kernel_rfl, by kernel_rfl⟩
theorem stat_63 : codeStat (Tryz.f63.body.getD .skip) = true := by kernel_rfl
theorem rnFun_28 : IsFun Tryz.prog 28 Tryz.f28 := ⟨Tryz.func28, by kernel_rfl, by kernel_rfl⟩
theorem stat_28 : codeStat (Tryz.f28.body.getD .skip) = true := by kernel_rfl
theorem rnFun_55 : IsFun Tryz.prog 55 Tryz.f55 := ⟨Tryz.func55, by kernel_rfl, by kernel_rfl⟩
theorem stat_55 : codeStat (Tryz.f55.body.getD .skip) = true := by kernel_rfl
theorem rnFun_31 : IsFun Tryz.prog 31 Tryz.f31 := ⟨Tryz.func31, by kernel_rfl, by kernel_rfl⟩
theorem stat_31 : codeStat (Tryz.f31.body.getD .skip) = true := by kernel_rfl
theorem rnFun_17 : IsFun Tryz.prog 17 Tryz.f17 := ⟨Tryz.func17, by kernel_rfl, by kernel_rfl⟩
theorem stat_17 : codeStat (Tryz.f17.body.getD .skip) = true := by kernel_rfl
theorem rnFun_26 : IsFun Tryz.prog 26 Tryz.f26 := ⟨Tryz.func26, by kernel_rfl, by kernel_rfl⟩
theorem stat_26 : codeStat (Tryz.f26.body.getD .skip) = true := by kernel_rfl
theorem rnFun_41 : IsFun Tryz.prog 41 Tryz.f41 := ⟨Tryz.func41, by kernel_rfl, by kernel_rfl⟩
theorem stat_41 : codeStat (Tryz.f41.body.getD .skip) = true := by kernel_rfl
theorem rnFun_24 : IsFun Tryz.prog 24 Tryz.f24 := ⟨Tryz.func24, by kernel_rfl, by kernel_rfl⟩
theorem stat_24 : codeStat (Tryz.f24.body.getD .skip) = true := by kernel_rfl
theorem rnFun_103 : IsFun Tryz.prog 103 Tryz.f103 := ⟨Tryz.func103, by kernel_rfl, by kernel_rfl⟩
theorem stat_103 : codeStat (Tryz.f103.body.getD .skip) = true := by kernel_rfl
theorem rnFun_104 : IsFun Tryz.prog 104 Tryz.f104 := ⟨Tryz.func104, by kernel_rfl, by kernel_rfl⟩
theorem stat_104 : codeStat (Tryz.f104.body.getD .skip) = true := by kernel_rfl
theorem rnFun_64 : IsFun Tryz.prog 64 Tryz.f64 := ⟨Tryz.func64, by kernel_rfl, by kernel_rfl⟩
theorem stat_64 : codeStat (Tryz.f64.body.getD .skip) = true := by kernel_rfl
theorem rnFun_101 : IsFun Tryz.prog 101 Tryz.f101 := ⟨Tryz.func101, by kernel_rfl, by kernel_rfl⟩
theorem stat_101 : codeStat (Tryz.f101.body.getD .skip) = true := by kernel_rfl
theorem rnFun_90 : IsFun Tryz.prog 90 Tryz.f90 := ⟨Tryz.func90, by kernel_rfl, by kernel_rfl⟩
theorem stat_90 : codeStat (Tryz.f90.body.getD .skip) = true := by kernel_rfl
theorem rnFun_121 : IsFun Tryz.prog 121 Tryz.f121 := ⟨Tryz.func121, by kernel_rfl, by kernel_rfl⟩
theorem stat_121 : codeStat (Tryz.f121.body.getD .skip) = true := by kernel_rfl
theorem rnFun_92 : IsFun Tryz.prog 92 Tryz.f92 := ⟨Tryz.func92, by kernel_rfl, by kernel_rfl⟩
theorem stat_92 : codeStat (Tryz.f92.body.getD .skip) = true := by kernel_rfl
theorem rnFun_93 : IsFun Tryz.prog 93 Tryz.f93 := ⟨Tryz.func93, by kernel_rfl, by kernel_rfl⟩
theorem stat_93 : codeStat (Tryz.f93.body.getD .skip) = true := by kernel_rfl
theorem rnFun_94 : IsFun Tryz.prog 94 Tryz.f94 := ⟨Tryz.func94, by kernel_rfl, by kernel_rfl⟩
theorem stat_94 : codeStat (Tryz.f94.body.getD .skip) = true := by kernel_rfl
theorem rnFun_125 : IsFun Tryz.prog 125 Tryz.f125 := ⟨Tryz.func125, by kernel_rfl, by kernel_rfl⟩
theorem stat_125 : codeStat (Tryz.f125.body.getD .skip) = true := by kernel_rfl
theorem rnFun_124 : IsFun Tryz.prog 124 Tryz.f124 := ⟨Tryz.func124, by kernel_rfl, by kernel_rfl⟩
theorem stat_124 : codeStat (Tryz.f124.body.getD .skip) = true := by kernel_rfl
theorem rnFun_147 : IsFun Tryz.prog 147 Tryz.f147 := ⟨Tryz.func147, by kernel_rfl, by kernel_rfl⟩
theorem stat_147 : codeStat (Tryz.f147.body.getD .skip) = true := by kernel_rfl
theorem rnFun_123 : IsFun Tryz.prog 123 Tryz.f123 := ⟨Tryz.func123, by kernel_rfl, by kernel_rfl⟩
theorem stat_123 : codeStat (Tryz.f123.body.getD .skip) = true := by kernel_rfl
theorem rnFun_145 : IsFun Tryz.prog 145 Tryz.f145 := ⟨Tryz.func145, by kernel_rfl, by kernel_rfl⟩
theorem stat_145 : codeStat (Tryz.f145.body.getD .skip) = true := by kernel_rfl
theorem rnFun_166 : IsFun Tryz.prog 166 Tryz.f166 := ⟨Tryz.func166, by kernel_rfl, by kernel_rfl⟩
theorem stat_166 : codeStat (Tryz.f166.body.getD .skip) = true := by kernel_rfl
theorem rnFun_53 : IsFun Tryz.prog 53 Tryz.f53 := ⟨Tryz.func53, by kernel_rfl, by kernel_rfl⟩
theorem stat_53 : codeStat (Tryz.f53.body.getD .skip) = true := by kernel_rfl
theorem rnFun_87 : IsFun Tryz.prog 87 Tryz.f87 := ⟨Tryz.func87, by kernel_rfl, by kernel_rfl⟩
theorem stat_87 : codeStat (Tryz.f87.body.getD .skip) = true := by kernel_rfl
theorem rnFun_62 : IsFun Tryz.prog 62 Tryz.f62 := ⟨Tryz.func62, by kernel_rfl, by kernel_rfl⟩
theorem stat_62 : codeStat (Tryz.f62.body.getD .skip) = true := by kernel_rfl
theorem rnFun_61 : IsFun Tryz.prog 61 Tryz.f61 := ⟨Tryz.func61, by kernel_rfl, by kernel_rfl⟩
theorem stat_61 : codeStat (Tryz.f61.body.getD .skip) = true := by kernel_rfl
theorem rnFun_110 : IsFun Tryz.prog 110 Tryz.f110 := ⟨Tryz.func110, by kernel_rfl, by kernel_rfl⟩
theorem stat_110 : codeStat (Tryz.f110.body.getD .skip) = true := by kernel_rfl
theorem rnFun_135 : IsFun Tryz.prog 135 Tryz.f135 := ⟨Tryz.func135, by kernel_rfl, by kernel_rfl⟩
theorem stat_135 : codeStat (Tryz.f135.body.getD .skip) = true := by kernel_rfl
theorem rnFun_136 : IsFun Tryz.prog 136 Tryz.f136 := ⟨Tryz.func136, by kernel_rfl, by kernel_rfl⟩
theorem stat_136 : codeStat (Tryz.f136.body.getD .skip) = true := by kernel_rfl
theorem rnFun_109 : IsFun Tryz.prog 109 Tryz.f109 := ⟨Tryz.func109, by kernel_rfl, by kernel_rfl⟩
theorem stat_109 : codeStat (Tryz.f109.body.getD .skip) = true := by kernel_rfl
theorem rnFun_107 : IsFun Tryz.prog 107 Tryz.f107 := ⟨Tryz.func107, by kernel_rfl, by kernel_rfl⟩
theorem stat_107 : codeStat (Tryz.f107.body.getD .skip) = true := by kernel_rfl
theorem rnFun_139 : IsFun Tryz.prog 139 Tryz.f139 := ⟨Tryz.func139, by kernel_rfl, by kernel_rfl⟩
theorem stat_139 : codeStat (Tryz.f139.body.getD .skip) = true := by kernel_rfl
theorem rnFun_161 : IsFun Tryz.prog 161 Tryz.f161 := ⟨Tryz.func161, by kernel_rfl, by kernel_rfl⟩
theorem stat_161 : codeStat (Tryz.f161.body.getD .skip) = true := by kernel_rfl
theorem rnFun_183 : IsFun Tryz.prog 183 Tryz.f183 := ⟨Tryz.func183, by kernel_rfl, by kernel_rfl⟩
theorem stat_183 : codeStat (Tryz.f183.body.getD .skip) = true := by kernel_rfl
theorem rnFun_182 : IsFun Tryz.prog 182 Tryz.f182 := ⟨Tryz.func182, by kernel_rfl, by kernel_rfl⟩
theorem stat_182 : codeStat (Tryz.f182.body.getD .skip) = true := by kernel_rfl
theorem rnFun_184 : IsFun Tryz.prog 184 Tryz.f184 := ⟨Tryz.func184, by kernel_rfl, by kernel_rfl⟩
theorem stat_184 : codeStat (Tryz.f184.body.getD .skip) = true := by kernel_rfl
theorem rnFun_191 : IsFun Tryz.prog 191 Tryz.f191 := ⟨Tryz.func191, by kernel_rfl, by kernel_rfl⟩
theorem stat_191 : codeStat (Tryz.f191.body.getD .skip) = true := by kernel_rfl
theorem rnFun_20 : IsFun Tryz.prog 20 Tryz.f20 := ⟨Tryz.func20, by kernel_rfl, by kernel_rfl⟩
theorem stat_20 : codeStat (Tryz.f20.body.getD .skip) = true := by kernel_rfl
theorem rnFun_36 : IsFun Tryz.prog 36 Tryz.f36 := ⟨Tryz.func36, by kernel_rfl, by kernel_rfl⟩
theorem stat_36 : codeStat (Tryz.f36.body.getD .skip) = true := by kernel_rfl
theorem rnFun_33 : IsFun Tryz.prog 33 Tryz.f33 := ⟨Tryz.func33, by kernel_rfl, by kernel_rfl⟩
theorem stat_33 : codeStat (Tryz.f33.body.getD .skip) = true := by kernel_rfl
theorem rnFun_59 : IsFun Tryz.prog 59 Tryz.f59 := ⟨Tryz.func59, by kernel_rfl, by kernel_rfl⟩
theorem stat_59 : codeStat (Tryz.f59.body.getD .skip) = true := by kernel_rfl
theorem rnFun_35 : IsFun Tryz.prog 35 Tryz.f35 := ⟨Tryz.func35, by kernel_rfl, by kernel_rfl⟩
theorem stat_35 : codeStat (Tryz.f35.body.getD .skip) = true := by kernel_rfl
theorem rnFun_148 : IsFun Tryz.prog 148 Tryz.f148 := ⟨Tryz.func148, by kernel_rfl, by kernel_rfl⟩
theorem stat_148 : codeStat (Tryz.f148.body.getD .skip) = true := by kernel_rfl
theorem rnFun_129 : IsFun Tryz.prog 129 Tryz.f129 := ⟨Tryz.func129, by kernel_rfl, by kernel_rfl⟩
theorem stat_129 : codeStat (Tryz.f129.body.getD .skip) = true := by kernel_rfl
theorem rnFun_42 : IsFun Tryz.prog 42 Tryz.f42 := ⟨Tryz.func42, by kernel_rfl, by kernel_rfl⟩
theorem stat_42 : codeStat (Tryz.f42.body.getD .skip) = true := by kernel_rfl
theorem rnFun_65 : IsFun Tryz.prog 65 Tryz.f65 := ⟨Tryz.func65, by kernel_rfl, by kernel_rfl⟩
theorem stat_65 : codeStat (Tryz.f65.body.getD .skip) = true := by kernel_rfl
theorem rnFun_66 : IsFun Tryz.prog 66 Tryz.f66 := ⟨Tryz.func66, by kernel_rfl, by kernel_rfl⟩
theorem stat_66 : codeStat (Tryz.f66.body.getD .skip) = true := by kernel_rfl
theorem rnFun_67 : IsFun Tryz.prog 67 Tryz.f67 := ⟨Tryz.func67, by kernel_rfl, by kernel_rfl⟩
theorem stat_67 : codeStat (Tryz.f67.body.getD .skip) = true := by kernel_rfl
theorem rnFun_68 : IsFun Tryz.prog 68 Tryz.f68 := ⟨Tryz.func68, by kernel_rfl, by kernel_rfl⟩
theorem stat_68 : codeStat (Tryz.f68.body.getD .skip) = true := by kernel_rfl
theorem rnFun_69 : IsFun Tryz.prog 69 Tryz.f69 := ⟨Tryz.func69, by kernel_rfl, by kernel_rfl⟩
theorem stat_69 : codeStat (Tryz.f69.body.getD .skip) = true := by kernel_rfl
noncomputable def tX (X : XE) : XE := fun f => match f with
  | 133 => some (.dat (fDat te X 400 Tryz.f133))
  | 157 => some (.dat (fDat te X 400 Tryz.f157))
  | 158 => some (.dat (fDat te X 400 Tryz.f158))
  | 179 => some (.dat (fDat te X 400 Tryz.f179))
  | 155 => some (.dat (fDat te X 400 Tryz.f155))
  | 178 => some (.dat (fDat te X 400 Tryz.f178))
  | 156 => some (.dat (fDat te X 400 Tryz.f156))
  | 153 => some (.dat (fDat te X 400 Tryz.f153))
  | 154 => some (.dat (fDat te X 400 Tryz.f154))
  | 132 => some (.dat (fDat te X 400 Tryz.f132))
  | 134 => some (.dat (fDat te X 400 Tryz.f134))
  | 159 => some (.dat (fDat te X 400 Tryz.f159))
  | 102 => some (.dat (fDat te X 400 Tryz.f102))
  | 127 => some (.dat (fDat te X 400 Tryz.f127))
  | 131 => some (.dat (fDat te X 400 Tryz.f131))
  | 126 => some (.dat (fDat te X 400 Tryz.f126))
  | 100 => some (.dat (fDat te X 400 Tryz.f100))
  | 128 => some (.dat (fDat te X 400 Tryz.f128))
  | 96 => some (.dat (fDat te X 400 Tryz.f96))
  | 99 => some (.dat (fDat te X 400 Tryz.f99))
  | 98 => some (.dat (fDat te X 400 Tryz.f98))
  | 105 => some (.dat (fDat te X 400 Tryz.f105))
  | 97 => some (.dat (fDat te X 400 Tryz.f97))
  | 95 => some (.dat (fDat te X 400 Tryz.f95))
  | 21 => some (.dat (fDat te X 400 Tryz.f21))
  | 18 => some (.dat (fDat te X 400 Tryz.f18))
  | 29 => some (.dat (fDat te X 400 Tryz.f29))
  | 56 => some (.dat (fDat te X 400 Tryz.f56))
  | 57 => some (.dat (fDat te X 400 Tryz.f57))
  | 88 => some (.dat (fDat te X 400 Tryz.f88))
  | 43 => some (.dat (fDat te X 400 Tryz.f43))
  | 54 => some (.dat (fDat te X 400 Tryz.f54))
  | 40 => some (.dat (fDat te X 400 Tryz.f40))
  | 63 => some (.dat (fDat te X 400 Tryz.f63))
  | 28 => some (.dat (fDat te X 400 Tryz.f28))
  | 55 => some (.dat (fDat te X 400 Tryz.f55))
  | 31 => some (.dat (fDat te X 400 Tryz.f31))
  | 17 => some (.dat (fDat te X 400 Tryz.f17))
  | 26 => some (.dat (fDat te X 400 Tryz.f26))
  | 41 => some (.dat (fDat te X 400 Tryz.f41))
  | 24 => some (.dat (fDat te X 400 Tryz.f24))
  | 103 => some (.dat (fDat te X 400 Tryz.f103))
  | 104 => some (.dat (fDat te X 400 Tryz.f104))
  | 64 => some (.dat (fDat te X 400 Tryz.f64))
  | 101 => some (.dat (fDat te X 400 Tryz.f101))
  | 90 => some (.dat (fDat te X 400 Tryz.f90))
  | 121 => some (.dat (fDat te X 400 Tryz.f121))
  | 92 => some (.dat (fDat te X 400 Tryz.f92))
  | 93 => some (.dat (fDat te X 400 Tryz.f93))
  | 94 => some (.dat (fDat te X 400 Tryz.f94))
  | 125 => some (.dat (fDat te X 400 Tryz.f125))
  | 124 => some (.dat (fDat te X 400 Tryz.f124))
  | 147 => some (.dat (fDat te X 400 Tryz.f147))
  | 123 => some (.dat (fDat te X 400 Tryz.f123))
  | 145 => some (.dat (fDat te X 400 Tryz.f145))
  | 166 => some (.dat (fDat te X 400 Tryz.f166))
  | 53 => some (.dat (fDat te X 400 Tryz.f53))
  | 87 => some (.dat (fDat te X 400 Tryz.f87))
  | 62 => some (.dat (fDat te X 400 Tryz.f62))
  | 61 => some (.dat (fDat te X 400 Tryz.f61))
  | 110 => some (.dat (fDat te X 400 Tryz.f110))
  | 135 => some (.dat (fDat te X 400 Tryz.f135))
  | 136 => some (.dat (fDat te X 400 Tryz.f136))
  | 109 => some (.dat (fDat te X 400 Tryz.f109))
  | 107 => some (.dat (fDat te X 400 Tryz.f107))
  | 139 => some (.dat (fDat te X 400 Tryz.f139))
  | 161 => some (.dat (fDat te X 400 Tryz.f161))
  | 183 => some (.dat (fDat te X 400 Tryz.f183))
  | 182 => some (.dat (fDat te X 400 Tryz.f182))
  | 184 => some (.dat (fDat te X 400 Tryz.f184))
  | 191 => some (.dat (fDat te X 400 Tryz.f191))
  | 20 => some (.dat (fDat te X 400 Tryz.f20))
  | 36 => some (.dat (fDat te X 400 Tryz.f36))
  | 33 => some (.dat (fDat te X 400 Tryz.f33))
  | 59 => some (.dat (fDat te X 400 Tryz.f59))
  | 35 => some (.dat (fDat te X 400 Tryz.f35))
  | 148 => some (.gen (fFun te X 400 Tryz.f148))
  | 130 => some (.dat (fDat te (tA X) 400 Tryz.f130))
  | 129 => some (.dat (fDat te (tW X) 400 Tryz.f129))
  | 42 => some (.gen (fFun te X 400 Tryz.f42))
  | 65 => some (.gen (fFun te X 400 Tryz.f65))
  | 66 => some (.gen (fFun te X 400 Tryz.f66))
  | 67 => some (.gen (fFun te X 400 Tryz.f67))
  | 68 => some (.gen (fFun te X 400 Tryz.f68))
  | 69 => some (.gen (fFun te X 400 Tryz.f69))
  | 173 => some (.gen (xClone 8 104))
  | 160 => some (.gen (xClone 2 24))
  | 180 => some (.gen (xClone 2 32))
  | 181 => some (.gen (xClone 1 1))
  | 149 => some (.gen (xLend (xIns 8 104) 8))
  | 150 => some (.gen (xLend (xIns 2 24) 2))
  | 151 => some (.gen (xLend xDel 2))
  | 152 => some (.gen (xLend xDel 8))
  | 172 => some (.dat (xCount))
  | 186 => some (.dat (xIndexB))
  | _ => none
theorem tX_sound {X : XE} (hX : Sound Tryz.prog X.env) : Sound Tryz.prog (tX X).env := by
    intro f sp h
    unfold XE.env at h
    generalize hx : tX X f = ox at h
    unfold tX at hx
    split at hx
    · subst hx; cases h; exact fDat_sound te_ok hX mixed rnFun_133 stat_133 400
    · subst hx; cases h; exact fDat_sound te_ok hX mixed rnFun_157 stat_157 400
    · subst hx; cases h; exact fDat_sound te_ok hX mixed rnFun_158 stat_158 400
    · subst hx; cases h; exact fDat_sound te_ok hX mixed rnFun_179 stat_179 400
    · subst hx; cases h; exact fDat_sound te_ok hX mixed rnFun_155 stat_155 400
    · subst hx; cases h; exact fDat_sound te_ok hX mixed rnFun_178 stat_178 400
    · subst hx; cases h; exact fDat_sound te_ok hX mixed rnFun_156 stat_156 400
    · subst hx; cases h; exact fDat_sound te_ok hX mixed rnFun_153 stat_153 400
    · subst hx; cases h; exact fDat_sound te_ok hX mixed rnFun_154 stat_154 400
    · subst hx; cases h; exact fDat_sound te_ok hX mixed rnFun_132 stat_132 400
    · subst hx; cases h; exact fDat_sound te_ok hX mixed rnFun_134 stat_134 400
    · subst hx; cases h; exact fDat_sound te_ok hX mixed rnFun_159 stat_159 400
    · subst hx; cases h; exact fDat_sound te_ok hX mixed rnFun_102 stat_102 400
    · subst hx; cases h; exact fDat_sound te_ok hX mixed rnFun_127 stat_127 400
    · subst hx; cases h; exact fDat_sound te_ok hX mixed rnFun_131 stat_131 400
    · subst hx; cases h; exact fDat_sound te_ok hX mixed rnFun_126 stat_126 400
    · subst hx; cases h; exact fDat_sound te_ok hX mixed rnFun_100 stat_100 400
    · subst hx; cases h; exact fDat_sound te_ok hX mixed rnFun_128 stat_128 400
    · subst hx; cases h; exact fDat_sound te_ok hX mixed rnFun_96 stat_96 400
    · subst hx; cases h; exact fDat_sound te_ok hX mixed rnFun_99 stat_99 400
    · subst hx; cases h; exact fDat_sound te_ok hX mixed rnFun_98 stat_98 400
    · subst hx; cases h; exact fDat_sound te_ok hX mixed rnFun_105 stat_105 400
    · subst hx; cases h; exact fDat_sound te_ok hX mixed rnFun_97 stat_97 400
    · subst hx; cases h; exact fDat_sound te_ok hX mixed rnFun_95 stat_95 400
    · subst hx; cases h; exact fDat_sound te_ok hX mixed rnFun_21 stat_21 400
    · subst hx; cases h; exact fDat_sound te_ok hX mixed rnFun_18 stat_18 400
    · subst hx; cases h; exact fDat_sound te_ok hX mixed rnFun_29 stat_29 400
    · subst hx; cases h; exact fDat_sound te_ok hX mixed rnFun_56 stat_56 400
    · subst hx; cases h; exact fDat_sound te_ok hX mixed rnFun_57 stat_57 400
    · subst hx; cases h; exact fDat_sound te_ok hX mixed rnFun_88 stat_88 400
    · subst hx; cases h; exact fDat_sound te_ok hX mixed rnFun_43 stat_43 400
    · subst hx; cases h; exact fDat_sound te_ok hX mixed rnFun_54 stat_54 400
    · subst hx; cases h; exact fDat_sound te_ok hX mixed rnFun_40 stat_40 400
    · subst hx; cases h; exact fDat_sound te_ok hX mixed rnFun_63 stat_63 400
    · subst hx; cases h; exact fDat_sound te_ok hX mixed rnFun_28 stat_28 400
    · subst hx; cases h; exact fDat_sound te_ok hX mixed rnFun_55 stat_55 400
    · subst hx; cases h; exact fDat_sound te_ok hX mixed rnFun_31 stat_31 400
    · subst hx; cases h; exact fDat_sound te_ok hX mixed rnFun_17 stat_17 400
    · subst hx; cases h; exact fDat_sound te_ok hX mixed rnFun_26 stat_26 400
    · subst hx; cases h; exact fDat_sound te_ok hX mixed rnFun_41 stat_41 400
    · subst hx; cases h; exact fDat_sound te_ok hX mixed rnFun_24 stat_24 400
    · subst hx; cases h; exact fDat_sound te_ok hX mixed rnFun_103 stat_103 400
    · subst hx; cases h; exact fDat_sound te_ok hX mixed rnFun_104 stat_104 400
    · subst hx; cases h; exact fDat_sound te_ok hX mixed rnFun_64 stat_64 400
    · subst hx; cases h; exact fDat_sound te_ok hX mixed rnFun_101 stat_101 400
    · subst hx; cases h; exact fDat_sound te_ok hX mixed rnFun_90 stat_90 400
    · subst hx; cases h; exact fDat_sound te_ok hX mixed rnFun_121 stat_121 400
    · subst hx; cases h; exact fDat_sound te_ok hX mixed rnFun_92 stat_92 400
    · subst hx; cases h; exact fDat_sound te_ok hX mixed rnFun_93 stat_93 400
    · subst hx; cases h; exact fDat_sound te_ok hX mixed rnFun_94 stat_94 400
    · subst hx; cases h; exact fDat_sound te_ok hX mixed rnFun_125 stat_125 400
    · subst hx; cases h; exact fDat_sound te_ok hX mixed rnFun_124 stat_124 400
    · subst hx; cases h; exact fDat_sound te_ok hX mixed rnFun_147 stat_147 400
    · subst hx; cases h; exact fDat_sound te_ok hX mixed rnFun_123 stat_123 400
    · subst hx; cases h; exact fDat_sound te_ok hX mixed rnFun_145 stat_145 400
    · subst hx; cases h; exact fDat_sound te_ok hX mixed rnFun_166 stat_166 400
    · subst hx; cases h; exact fDat_sound te_ok hX mixed rnFun_53 stat_53 400
    · subst hx; cases h; exact fDat_sound te_ok hX mixed rnFun_87 stat_87 400
    · subst hx; cases h; exact fDat_sound te_ok hX mixed rnFun_62 stat_62 400
    · subst hx; cases h; exact fDat_sound te_ok hX mixed rnFun_61 stat_61 400
    · subst hx; cases h; exact fDat_sound te_ok hX mixed rnFun_110 stat_110 400
    · subst hx; cases h; exact fDat_sound te_ok hX mixed rnFun_135 stat_135 400
    · subst hx; cases h; exact fDat_sound te_ok hX mixed rnFun_136 stat_136 400
    · subst hx; cases h; exact fDat_sound te_ok hX mixed rnFun_109 stat_109 400
    · subst hx; cases h; exact fDat_sound te_ok hX mixed rnFun_107 stat_107 400
    · subst hx; cases h; exact fDat_sound te_ok hX mixed rnFun_139 stat_139 400
    · subst hx; cases h; exact fDat_sound te_ok hX mixed rnFun_161 stat_161 400
    · subst hx; cases h; exact fDat_sound te_ok hX mixed rnFun_183 stat_183 400
    · subst hx; cases h; exact fDat_sound te_ok hX mixed rnFun_182 stat_182 400
    · subst hx; cases h; exact fDat_sound te_ok hX mixed rnFun_184 stat_184 400
    · subst hx; cases h; exact fDat_sound te_ok hX mixed rnFun_191 stat_191 400
    · subst hx; cases h; exact fDat_sound te_ok hX mixed rnFun_20 stat_20 400
    · subst hx; cases h; exact fDat_sound te_ok hX mixed rnFun_36 stat_36 400
    · subst hx; cases h; exact fDat_sound te_ok hX mixed rnFun_33 stat_33 400
    · subst hx; cases h; exact fDat_sound te_ok hX mixed rnFun_59 stat_59 400
    · subst hx; cases h; exact fDat_sound te_ok hX mixed rnFun_35 stat_35 400
    · subst hx; cases h; exact fGen_sound te_ok hX mixed rnFun_148 stat_148 400
    · subst hx; cases h; exact fDat_sound te_ok (tA_sound hX) mixed rnFun_130 stat_130 400
    · subst hx; cases h; exact fDat_sound te_ok (tW_sound hX) mixed rnFun_129 stat_129 400
    · subst hx; cases h; exact fGen_sound te_ok hX mixed rnFun_42 stat_42 400
    · subst hx; cases h; exact fGen_sound te_ok hX mixed rnFun_65 stat_65 400
    · subst hx; cases h; exact fGen_sound te_ok hX mixed rnFun_66 stat_66 400
    · subst hx; cases h; exact fGen_sound te_ok hX mixed rnFun_67 stat_67 400
    · subst hx; cases h; exact fGen_sound te_ok hX mixed rnFun_68 stat_68 400
    · subst hx; cases h; exact fGen_sound te_ok hX mixed rnFun_69 stat_69 400
    · subst hx; cases h; exact clone_173
    · subst hx; cases h; exact clone_160
    · subst hx; cases h; exact clone_180
    · subst hx; cases h; exact clone_181
    · subst hx; cases h; exact insert_149
    · subst hx; cases h; exact insert_150
    · subst hx; cases h; exact delete_151
    · subst hx; cases h; exact delete_152
    · subst hx; cases h; exact ext_172
    · subst hx; cases h; exact ext_186
    · subst hx; cases h
noncomputable def X : Nat → XE
  | 0 => fun _ => none
  | n + 1 => tX (X n)
theorem X_sound : ∀ n, Sound Tryz.prog (X n).env
  | 0 => none_sound
  | n + 1 => tX_sound (X_sound n)
end Go.Proofs.YtdojencjbmahpaaGreatDoor
end
/-
  The law's own check of what is known, by a run.
-/
section
namespace Go.Proofs.YtdojencjbmahpaaGreatDoor
open Go.Rf
set_option maxRecDepth 100000
theorem known_run : fDat te (X 30) 400 Tryz.f20 [] = some (.bool true, .none) := by kernel_rfl
theorem known_sound : SpecSound Tryz.prog 20 (XS.spec (.dat xTrue)) := memo_true (fDat_sound te_ok (X_sound 30) mixed rnFun_20 stat_20 400) known_run
/-- The functions that the laws of the branch call. -/
noncomputable def XL : XE := withOne 20 (.dat xTrue) (X 40)
theorem XL_sound : Sound Tryz.prog XL.env := withOne_sound known_sound (X_sound 40)
end Go.Proofs.YtdojencjbmahpaaGreatDoor
end
/-
  The check of what is known, of the laws of the model, by a run.
-/
section
namespace Go.Proofs.YtdojencjbmahpaaGreatDoor
open Go.Rf
set_option maxRecDepth 100000
theorem knownM_run : fDat te (X 40) 400 Tryz.f36 [] = some (.bool true, .none) := by kernel_rfl
theorem knownM_sound : SpecSound Tryz.prog 36 (XS.spec (.dat xTrue)) := memo_true (fDat_sound te_ok (X_sound 40) mixed rnFun_36 stat_36 400) knownM_run
noncomputable def XM : XE := withOne 36 (.dat xTrue) (X 41)
theorem XM_sound : Sound Tryz.prog XM.env := withOne_sound knownM_sound (X_sound 41)
end Go.Proofs.YtdojencjbmahpaaGreatDoor
end
/-
  Of two rows of texts: the formulas of the two functions that compare them.
-/
section
namespace Go.Proofs.YtdojencjbmahpaaGreatDoor
open Go.Rf
set_option maxRecDepth 100000
set_option linter.unusedVariables false
def nGE : GE := fun _ => none
def t62 (a b : Bool) (es fs : List (List AV)) (i : Int) : St := ⟨[.sl 1 a es, .sl 1 b fs, .junk, .junk, .junk, .junk, .junk, .junk, .junk, .junk, .junk, .junk, .int .i64 (es.length : Int), .int .i64 i, .junk, .junk, .junk, .junk, .junk, .junk, .junk, .junk, .junk, .junk, .junk, .junk], []⟩
def k62 : List Bool := [true, true, false, false, false, false, false, false, false, false, false, false, true, true, false, false, false, false, false, false, false, false, false, false, false, false]
theorem v62 (a b : Bool) (es fs : List (List AV)) (Φ : AV → List Ent → Prop) : wFun te nGE Tryz.f62 [.sl 1 a es, .sl 1 b fs] [] Φ =
  (ifB ((es.length : Int) != (fs.length : Int)) (Φ (.bool false) []) (wLoop 0 (wCode te nGE 0 (bodyAt Tryz.f62 [false, false, true, false, true, true])) ⟨[.sl 1 a es, .sl 1 b fs, .junk, .junk, .bool false, .junk, .sl 1 a es, .int .i64 (es.length : Int), .sl 1 b fs, .int .i64 (fs.length : Int), .bool ((es.length : Int) != (fs.length : Int)), .sl 1 a es, .int .i64 (es.length : Int), .int .i64 0, .junk, .junk, .junk, .junk, .junk, .junk, .junk, .junk, .junk, .junk, .junk, .junk], []⟩ (blkQ 0 (seqQ (wCode te nGE 0 (bodyAt Tryz.f62 [false, false, false])) (endQ te Tryz.f62 Φ))))) := by kernel_rfl
theorem b62 (a b : Bool) (es fs : List (List AV)) (i : Int) (Q : KontX) : wCode te nGE 0 (bodyAt Tryz.f62 [false, false, true, false, true, true]) (t62 a b es fs i) Q =
  (ifB (!leI (es.length : Int) i) ((0 ≤ i ∧ i < (es.length : Int)) ∧ ∃ x, cellAt es i.toNat 0 = .str x ∧ ((0 ≤ i ∧ i < (fs.length : Int)) ∧ ∃ y, cellAt fs i.toNat 0 = .str y ∧
    ifB (!(x.toList == y.toList)) (Q .ret ⟨[.sl 1 a es, .sl 1 b fs, .junk, .junk, .bool false, .int .i64 i, .junk, .junk, .junk, .junk, .junk, .junk, .int .i64 (es.length : Int), .int .i64 i, .bool (!leI (es.length : Int) i), .int .i64 i, .sl 1 a es, .int .i64 i, .rptr 1 es i.toNat 0, .str x, .sl 1 b fs, .int .i64 i, .rptr 1 fs i.toNat 0, .str y, .bool (!(x.toList == y.toList)), .junk], [.none, .none, .none, .none, .none, .none, .none, .none]⟩) (Q .normal ⟨[.sl 1 a es, .sl 1 b fs, .junk, .junk, .junk, .int .i64 i, .junk, .junk, .junk, .junk, .junk, .junk, .int .i64 (es.length : Int), .int .i64 (IntKind.i64.wrap (i + 1)), .bool (!leI (es.length : Int) i), .int .i64 i, .sl 1 a es, .int .i64 i, .rptr 1 es i.toNat 0, .str x, .sl 1 b fs, .int .i64 i, .rptr 1 fs i.toNat 0, .str y, .bool (!(x.toList == y.toList)), .int .i64 (IntKind.i64.wrap (i + 1))], [.none, .none, .none, .none, .none, .none, .none, .none]⟩))) (Q (.exit 0) ⟨[.sl 1 a es, .sl 1 b fs, .junk, .junk, .junk, .junk, .junk, .junk, .junk, .junk, .junk, .junk, .int .i64 (es.length : Int), .int .i64 i, .bool (!leI (es.length : Int) i), .junk, .junk, .junk, .junk, .junk, .junk, .junk, .junk, .junk, .junk, .junk], []⟩)) := by kernel_rfl
theorem e62 (s : St) (Φ : AV → List Ent → Prop) (a b : Bool) (es fs : List (List AV)) (i : Int) : wCode te nGE 0 (bodyAt Tryz.f62 [false, false, false]) (t62 a b es fs i) (endQ te Tryz.f62 Φ) = Φ (.bool true) [] := by kernel_rfl
def t31 (a b : Bool) (es fs : List (List AV)) (i : Int) : St := ⟨[.sl 1 a es, .sl 1 b fs, .junk, .junk, .junk, .int .i64 i, .junk, .junk, .junk, .junk, .junk, .junk, .junk, .junk, .junk, .junk, .junk, .junk, .junk, .junk, .junk, .junk, .junk, .junk, .junk, .junk], []⟩
def k31 : List Bool := [true, true, false, false, false, true, false, false, false, false, false, false, false, false, false, false, false, false, false, false, false, false, false, false, false, false]
theorem v31 (a b : Bool) (es fs : List (List AV)) (Φ : AV → List Ent → Prop) : wFun te nGE Tryz.f31 [.sl 1 a es, .sl 1 b fs] [] Φ =
  (ifB ((es.length : Int) != (fs.length : Int)) (Φ (.bool false) []) (wLoop 0 (wCode te nGE 0 (bodyAt Tryz.f31 [false, false, true, false, true, true])) ⟨[.sl 1 a es, .sl 1 b fs, .junk, .junk, .bool false, .int .i64 0, .sl 1 a es, .int .i64 (es.length : Int), .sl 1 b fs, .int .i64 (fs.length : Int), .bool ((es.length : Int) != (fs.length : Int)), .junk, .junk, .junk, .junk, .junk, .junk, .junk, .junk, .junk, .junk, .junk, .junk, .junk, .junk, .junk], []⟩ (blkQ 0 (seqQ (wCode te nGE 0 (bodyAt Tryz.f31 [false, false, false])) (endQ te Tryz.f31 Φ))))) := by kernel_rfl
theorem b31 (a b : Bool) (es fs : List (List AV)) (i : Int) (Q : KontX) : wCode te nGE 0 (bodyAt Tryz.f31 [false, false, true, false, true, true]) (t31 a b es fs i) Q =
  (ifB (!leI (es.length : Int) i) ((0 ≤ i ∧ i < (es.length : Int)) ∧ ∃ x, cellAt es i.toNat 0 = .str x ∧ ((0 ≤ i ∧ i < (fs.length : Int)) ∧ ∃ y, cellAt fs i.toNat 0 = .str y ∧
    ifB (!(x.toList == y.toList)) (Q .ret ⟨[.sl 1 a es, .sl 1 b fs, .junk, .junk, .bool false, .int .i64 i, .junk, .junk, .junk, .junk, .junk, .int .i64 i, .sl 1 a es, .int .i64 (es.length : Int), .bool (!leI (es.length : Int) i), .junk, .junk, .sl 1 a es, .int .i64 i, .rptr 1 es i.toNat 0, .str x, .sl 1 b fs, .int .i64 i, .rptr 1 fs i.toNat 0, .str y, .bool (!(x.toList == y.toList))], [.none, .none, .none, .none, .none, .none, .none, .none]⟩) (Q .normal ⟨[.sl 1 a es, .sl 1 b fs, .junk, .junk, .junk, .int .i64 (IntKind.i64.wrap (i + 1)), .junk, .junk, .junk, .junk, .junk, .int .i64 i, .sl 1 a es, .int .i64 (es.length : Int), .bool (!leI (es.length : Int) i), .int .i64 i, .int .i64 (IntKind.i64.wrap (i + 1)), .sl 1 a es, .int .i64 i, .rptr 1 es i.toNat 0, .str x, .sl 1 b fs, .int .i64 i, .rptr 1 fs i.toNat 0, .str y, .bool (!(x.toList == y.toList))], [.none, .none, .none, .none, .none, .none, .none, .none]⟩))) (Q (.exit 0) ⟨[.sl 1 a es, .sl 1 b fs, .junk, .junk, .junk, .int .i64 i, .junk, .junk, .junk, .junk, .junk, .int .i64 i, .sl 1 a es, .int .i64 (es.length : Int), .bool (!leI (es.length : Int) i), .junk, .junk, .junk, .junk, .junk, .junk, .junk, .junk, .junk, .junk, .junk], []⟩)) := by kernel_rfl
theorem e31 (s : St) (Φ : AV → List Ent → Prop) (a b : Bool) (es fs : List (List AV)) (i : Int) : wCode te nGE 0 (bodyAt Tryz.f31 [false, false, false]) (t31 a b es fs i) (endQ te Tryz.f31 Φ) = Φ (.bool true) [] := by kernel_rfl
end Go.Proofs.YtdojencjbmahpaaGreatDoor
end
/-
  Of two rows of texts: what the two functions that compare them come to.
-/
section
namespace Go.Proofs.YtdojencjbmahpaaGreatDoor
open Go.Rf
set_option maxRecDepth 100000
set_option linter.unusedVariables false

def AllStr (es : List (List AV)) : Prop := ∀ e ∈ es, ∃ s, e = [.str s]
def txt : List AV → ByteArray
  | [.str s] => s
  | _ => ⟨#[]⟩
def eqS : List (List AV) → List (List AV) → Bool
  | [], [] => true
  | e :: es, f :: fs => ((txt e).toList == (txt f).toList) && eqS es fs
  | _, _ => false
theorem eqS_len : ∀ (es fs : List (List AV)), es.length ≠ fs.length → eqS es fs = false
  | [], [], h => absurd rfl h
  | [], _ :: _, _ => rfl
  | _ :: _, [], _ => rfl
  | e :: es, f :: fs, h => by simp only [eqS]; rw [eqS_len es fs (by simpa using h), Bool.and_false]
theorem str_at {es : List (List AV)} (h : AllStr es) {i : Nat} (hi : i < es.length) : ∃ s, es[i]? = some [.str s] ∧ cellAt es i 0 = .str s := by
  have hg : es[i]? = some es[i] := List.getElem?_eq_getElem hi
  obtain ⟨s, hs⟩ := h es[i] (List.getElem_mem hi)
  rw [hs] at hg
  exact ⟨s, hg, by simp [cellAt, List.getD_eq_getElem?_getD, hg]⟩
theorem eqS_drop {es fs : List (List AV)} {i : Nat} {x y : ByteArray} (hx : es[i]? = some [.str x]) (hy : fs[i]? = some [.str y]) : eqS (es.drop i) (fs.drop i) = ((x.toList == y.toList) && eqS (es.drop (i + 1)) (fs.drop (i + 1))) := by
  obtain ⟨hi, hx'⟩ := List.getElem?_eq_some_iff.1 hx
  obtain ⟨hj, hy'⟩ := List.getElem?_eq_some_iff.1 hy
  rw [List.drop_eq_getElem_cons hi, List.drop_eq_getElem_cons hj, hx', hy']
  rfl

theorem s62 {es fs : List (List AV)} (a b : Bool) (h1 : AllStr es) (h2 : AllStr fs) (hb : es.length ≤ 9223372036854775806) (Φ : AV → Ent → Prop) (h : Φ (.bool (eqS es fs)) .none) : wFun te nGE Tryz.f62 [.sl 1 a es, .sl 1 b fs] [] (datFin Φ) := by
  rw [v62]
  refine ifB_both (fun hne => ?_) (fun hne => ?_)
  · have : es.length ≠ fs.length := by intro he; rw [he] at hne; simp at hne
    rw [eqS_len es fs this] at h
    exact h
  · have hl : es.length = fs.length := by
      by_cases he : es.length = fs.length
      · exact he
      · exfalso
        have : ((es.length : Int) != (fs.length : Int)) = true := by simp; omega
        rw [this] at hne
        cases hne
    refine ⟨k62, 0, fun n s => ∃ i : Nat, i + n = es.length ∧ s = t62 a b es fs i ∧ eqS es fs = eqS (es.drop i) (fs.drop i), Nat.le_refl 0, ⟨rfl, es.length, 0, by omega, rfl, rfl⟩, ?_⟩
    rintro n s ⟨i, hi, rfl, hinv⟩
    rw [b62]
    refine ifB_both (fun hlt => ?_) (fun hlt => ?_)
    · rw [not_leI] at hlt
      have hlt' : i < es.length := by have := of_decide_eq_true hlt; omega
      obtain ⟨x, hx, hx'⟩ := str_at h1 hlt'
      obtain ⟨y, hy, hy'⟩ := str_at h2 (show i < fs.length by omega)
      have hd := eqS_drop hx hy
      refine ⟨⟨by omega, by omega⟩, x, by rw [Int.toNat_natCast]; exact hx', ⟨by omega, by omega⟩, y, by rw [Int.toNat_natCast]; exact hy', ifB_both (fun hxy => ?_) (fun hxy => ?_)⟩
      · have : (x.toList == y.toList) = false := by simpa using hxy
        rw [hinv, hd, this, Bool.false_and] at h
        exact h
      · have : (x.toList == y.toList) = true := by simpa using hxy
        rw [this, Bool.true_and] at hd
        refine ⟨rfl, n - 1, by omega, i + 1, by omega, ?_, hinv.trans hd⟩
        have hw : IntKind.i64.wrap ((i : Int) + 1) = ((i + 1 : Nat) : Int) := by rw [IntWalk.i64_in _ (by omega)]; rfl
        rw [hw]
        rfl
    · rw [not_leI] at hlt
      have hge : es.length ≤ i := by have := of_decide_eq_false hlt; omega
      have he1 : es.drop i = [] := List.drop_of_length_le hge
      have he2 : fs.drop i = [] := List.drop_of_length_le (by omega)
      rw [hinv, he1, he2] at h
      refine ⟨rfl, ?_⟩
      show wCode te nGE 0 (bodyAt Tryz.f62 [false, false, false]) (t62 a b es fs i) (endQ te Tryz.f62 (datFin Φ))
      rw [e62 (t62 a b es fs i) (datFin Φ) a b es fs i]
      exact h

theorem s31 {es fs : List (List AV)} (a b : Bool) (h1 : AllStr es) (h2 : AllStr fs) (hb : es.length ≤ 9223372036854775806) (Φ : AV → Ent → Prop) (h : Φ (.bool (eqS es fs)) .none) : wFun te nGE Tryz.f31 [.sl 1 a es, .sl 1 b fs] [] (datFin Φ) := by
  rw [v31]
  refine ifB_both (fun hne => ?_) (fun hne => ?_)
  · have : es.length ≠ fs.length := by intro he; rw [he] at hne; simp at hne
    rw [eqS_len es fs this] at h
    exact h
  · have hl : es.length = fs.length := by
      by_cases he : es.length = fs.length
      · exact he
      · exfalso
        have : ((es.length : Int) != (fs.length : Int)) = true := by simp; omega
        rw [this] at hne
        cases hne
    refine ⟨k31, 0, fun n s => ∃ i : Nat, i + n = es.length ∧ s = t31 a b es fs i ∧ eqS es fs = eqS (es.drop i) (fs.drop i), Nat.le_refl 0, ⟨rfl, es.length, 0, by omega, rfl, rfl⟩, ?_⟩
    rintro n s ⟨i, hi, rfl, hinv⟩
    rw [b31]
    refine ifB_both (fun hlt => ?_) (fun hlt => ?_)
    · rw [not_leI] at hlt
      have hlt' : i < es.length := by have := of_decide_eq_true hlt; omega
      obtain ⟨x, hx, hx'⟩ := str_at h1 hlt'
      obtain ⟨y, hy, hy'⟩ := str_at h2 (show i < fs.length by omega)
      have hd := eqS_drop hx hy
      refine ⟨⟨by omega, by omega⟩, x, by rw [Int.toNat_natCast]; exact hx', ⟨by omega, by omega⟩, y, by rw [Int.toNat_natCast]; exact hy', ifB_both (fun hxy => ?_) (fun hxy => ?_)⟩
      · have : (x.toList == y.toList) = false := by simpa using hxy
        rw [hinv, hd, this, Bool.false_and] at h
        exact h
      · have : (x.toList == y.toList) = true := by simpa using hxy
        rw [this, Bool.true_and] at hd
        refine ⟨rfl, n - 1, by omega, i + 1, by omega, ?_, hinv.trans hd⟩
        have hw : IntKind.i64.wrap ((i : Int) + 1) = ((i + 1 : Nat) : Int) := by rw [IntWalk.i64_in _ (by omega)]; rfl
        rw [hw]
        rfl
    · rw [not_leI] at hlt
      have hge : es.length ≤ i := by have := of_decide_eq_false hlt; omega
      have he1 : es.drop i = [] := List.drop_of_length_le hge
      have he2 : fs.drop i = [] := List.drop_of_length_le (by omega)
      rw [hinv, he1, he2] at h
      refine ⟨rfl, ?_⟩
      show wCode te nGE 0 (bodyAt Tryz.f31 [false, false, false]) (t31 a b es fs i) (endQ te Tryz.f31 (datFin Φ))
      rw [e31 (t31 a b es fs i) (datFin Φ) a b es fs i]
      exact h
end Go.Proofs.YtdojencjbmahpaaGreatDoor
end
/-
  Of two replies: the formulas of the functions that compare them, and of the law.
-/
section
namespace Go.Proofs.YtdojencjbmahpaaGreatDoor
open Go.Rf
set_option maxRecDepth 100000
set_option linter.unusedVariables false
def eqB (es fs : List (List AV)) : Bool := ((strOf es).toList == (strOf fs).toList)
theorem v61 (a b : Bool) (es fs : List (List AV)) (Φ : AV → List Ent → Prop) : wFun te nGE Tryz.f61 [.sl 1 a es, .sl 1 b fs] [] Φ = ((∀ e ∈ es, isByte e) ∧ (∀ e ∈ fs, isByte e) ∧ Φ (.bool (eqB es fs)) []) := by kernel_rfl
def g2B : List AV → AV
  | [.sl _ _ es, .sl _ _ fs] => .bool (eqB es fs)
  | _ => .junk
def C2B : List AV → Prop
  | [.sl 1 _ es, .sl 1 _ fs] => (∀ e ∈ es, isByte e) ∧ (∀ e ∈ fs, isByte e)
  | _ => False
def g2S : List AV → AV
  | [.sl _ _ es, .sl _ _ fs] => .bool (eqS es fs)
  | _ => .junk
def C2S : List AV → Prop
  | [.sl 1 _ es, .sl 1 _ fs] => AllStr es ∧ AllStr fs ∧ es.length ≤ 9223372036854775806
  | _ => False
def sameI (i1 i2 i3 i4 i5 j1 j2 j3 j4 j5 : Int) : Bool := ((i1 == j1) && ((i2 == j2) && ((i3 == j3) && ((i4 == j4) && ((i5 == j5) && true)))))
def gSame : List AV → AV
  | [.agg [.sl 1 _ d, .sl 1 _ n, .int .i64 i1, .int .i64 i2, .int .i64 i3, .int .i64 i4, .int .i64 i5], .agg [.sl 1 _ d', .sl 1 _ n', .int .i64 j1, .int .i64 j2, .int .i64 j3, .int .i64 j4, .int .i64 j5]] => .bool (eqB d d' && (eqS n n' && sameI i1 i2 i3 i4 i5 j1 j2 j3 j4 j5))
  | _ => .junk
def CSame : List AV → Prop
  | [.agg [.sl 1 _ d, .sl 1 _ n, .int .i64 i1, .int .i64 i2, .int .i64 i3, .int .i64 i4, .int .i64 i5], .agg [.sl 1 _ d', .sl 1 _ n', .int .i64 j1, .int .i64 j2, .int .i64 j3, .int .i64 j4, .int .i64 j5]] => (∀ e ∈ d, isByte e) ∧ (∀ e ∈ d', isByte e) ∧ AllStr n ∧ AllStr n' ∧ n.length ≤ 9223372036854775806
  | _ => False
def G35 : GE := fun f => match f with
  | 61 => some (.fn C2B g2B)
  | 62 => some (.fn C2S g2S)
  | _ => none
def G23 : GE := fun f => match f with
  | 31 => some (.fn C2S g2S)
  | _ => none
def G12 : GE := fun f => match f with
  | 35 => some (.fn CSame gSame)
  | 23 => some (.fn CSame gSame)
  | 36 => some (.fn (fun xs => xs = []) (fun _ => .bool true))
  | _ => none
theorem v35 (a b a' b' : Bool) (d n d' n' : List (List AV)) (i1 i2 i3 i4 i5 j1 j2 j3 j4 j5 : Int) (Φ : AV → List Ent → Prop) : wFun te G35 Tryz.f35 [.agg [.sl 1 a d, .sl 1 b n, .int .i64 i1, .int .i64 i2, .int .i64 i3, .int .i64 i4, .int .i64 i5], .agg [.sl 1 a' d', .sl 1 b' n', .int .i64 j1, .int .i64 j2, .int .i64 j3, .int .i64 j4, .int .i64 j5]] [] Φ =
  (C2B [.sl 1 false d, .sl 1 false d'] ∧ ifB (eqB d d') (C2S [.sl 1 false n, .sl 1 false n'] ∧ ifB (eqS n n') (Φ (.bool (sameI i1 i2 i3 i4 i5 j1 j2 j3 j4 j5)) [.var [.sl 1 a d, .sl 1 b n, .int .i64 i1, .int .i64 i2, .int .i64 i3, .int .i64 i4, .int .i64 i5], .var [.sl 1 a' d', .sl 1 b' n', .int .i64 j1, .int .i64 j2, .int .i64 j3, .int .i64 j4, .int .i64 j5]]) (Φ (.bool false) [.var [.sl 1 a d, .sl 1 b n, .int .i64 i1, .int .i64 i2, .int .i64 i3, .int .i64 i4, .int .i64 i5], .var [.sl 1 a' d', .sl 1 b' n', .int .i64 j1, .int .i64 j2, .int .i64 j3, .int .i64 j4, .int .i64 j5]])) (Φ (.bool false) [.var [.sl 1 a d, .sl 1 b n, .int .i64 i1, .int .i64 i2, .int .i64 i3, .int .i64 i4, .int .i64 i5], .var [.sl 1 a' d', .sl 1 b' n', .int .i64 j1, .int .i64 j2, .int .i64 j3, .int .i64 j4, .int .i64 j5]])) := by kernel_rfl
theorem v23 (a b a' b' : Bool) (d n d' n' : List (List AV)) (i1 i2 i3 i4 i5 j1 j2 j3 j4 j5 : Int) (Φ : AV → List Ent → Prop) : wFun te G23 Tryz.f23 [.agg [.sl 1 a d, .sl 1 b n, .int .i64 i1, .int .i64 i2, .int .i64 i3, .int .i64 i4, .int .i64 i5], .agg [.sl 1 a' d', .sl 1 b' n', .int .i64 j1, .int .i64 j2, .int .i64 j3, .int .i64 j4, .int .i64 j5]] [] Φ =
  ((∀ e ∈ d, isByte e) ∧ (∀ e ∈ d', isByte e) ∧ ifB (eqB d d') (C2S [.sl 1 false n, .sl 1 false n'] ∧ ifB (eqS n n') (Φ (.bool (sameI i1 i2 i3 i4 i5 j1 j2 j3 j4 j5)) [.var [.sl 1 a d, .sl 1 b n, .int .i64 i1, .int .i64 i2, .int .i64 i3, .int .i64 i4, .int .i64 i5], .var [.sl 1 a' d', .sl 1 b' n', .int .i64 j1, .int .i64 j2, .int .i64 j3, .int .i64 j4, .int .i64 j5]]) (Φ (.bool false) [.var [.sl 1 a d, .sl 1 b n, .int .i64 i1, .int .i64 i2, .int .i64 i3, .int .i64 i4, .int .i64 i5], .var [.sl 1 a' d', .sl 1 b' n', .int .i64 j1, .int .i64 j2, .int .i64 j3, .int .i64 j4, .int .i64 j5]])) (Φ (.bool false) [.var [.sl 1 a d, .sl 1 b n, .int .i64 i1, .int .i64 i2, .int .i64 i3, .int .i64 i4, .int .i64 i5], .var [.sl 1 a' d', .sl 1 b' n', .int .i64 j1, .int .i64 j2, .int .i64 j3, .int .i64 j4, .int .i64 j5]])) := by kernel_rfl
theorem v12 (a b a' b' : Bool) (d n d' n' : List (List AV)) (i1 i2 i3 i4 i5 j1 j2 j3 j4 j5 : Int) (Φ : AV → List Ent → Prop) : wFun te G12 Tryz.f12 [.agg [.sl 1 a d, .sl 1 b n, .int .i64 i1, .int .i64 i2, .int .i64 i3, .int .i64 i4, .int .i64 i5], .agg [.sl 1 a' d', .sl 1 b' n', .int .i64 j1, .int .i64 j2, .int .i64 j3, .int .i64 j4, .int .i64 j5]] [] Φ =
  (ifB (!leI d.length 100) (Φ (.bool true) [.var [.sl 1 a d, .sl 1 b n, .int .i64 i1, .int .i64 i2, .int .i64 i3, .int .i64 i4, .int .i64 i5], .var [.sl 1 a' d', .sl 1 b' n', .int .i64 j1, .int .i64 j2, .int .i64 j3, .int .i64 j4, .int .i64 j5]]) (ifB (!leI d'.length 100) (Φ (.bool true) [.var [.sl 1 a d, .sl 1 b n, .int .i64 i1, .int .i64 i2, .int .i64 i3, .int .i64 i4, .int .i64 i5], .var [.sl 1 a' d', .sl 1 b' n', .int .i64 j1, .int .i64 j2, .int .i64 j3, .int .i64 j4, .int .i64 j5]]) (ifB (!leI n.length 20) (Φ (.bool true) [.var [.sl 1 a d, .sl 1 b n, .int .i64 i1, .int .i64 i2, .int .i64 i3, .int .i64 i4, .int .i64 i5], .var [.sl 1 a' d', .sl 1 b' n', .int .i64 j1, .int .i64 j2, .int .i64 j3, .int .i64 j4, .int .i64 j5]]) (ifB (!leI n'.length 20) (Φ (.bool true) [.var [.sl 1 a d, .sl 1 b n, .int .i64 i1, .int .i64 i2, .int .i64 i3, .int .i64 i4, .int .i64 i5], .var [.sl 1 a' d', .sl 1 b' n', .int .i64 j1, .int .i64 j2, .int .i64 j3, .int .i64 j4, .int .i64 j5]])
    (CSame [.agg [.sl 1 false d, .sl 1 false n, .int .i64 i1, .int .i64 i2, .int .i64 i3, .int .i64 i4, .int .i64 i5], .agg [.sl 1 false d', .sl 1 false n', .int .i64 j1, .int .i64 j2, .int .i64 j3, .int .i64 j4, .int .i64 j5]] ∧ CSame [.agg [.sl 1 false d, .sl 1 false n, .int .i64 i1, .int .i64 i2, .int .i64 i3, .int .i64 i4, .int .i64 i5], .agg [.sl 1 false d', .sl 1 false n', .int .i64 j1, .int .i64 j2, .int .i64 j3, .int .i64 j4, .int .i64 j5]] ∧
      ifB ((eqB d d' && (eqS n n' && sameI i1 i2 i3 i4 i5 j1 j2 j3 j4 j5)) == (eqB d d' && (eqS n n' && sameI i1 i2 i3 i4 i5 j1 j2 j3 j4 j5)))
        (CSame [.agg [.sl 1 false d, .sl 1 false n, .int .i64 i1, .int .i64 i2, .int .i64 i3, .int .i64 i4, .int .i64 i5], .agg [.sl 1 false d, .sl 1 false n, .int .i64 i1, .int .i64 i2, .int .i64 i3, .int .i64 i4, .int .i64 i5]] ∧ ifB (eqB d d && (eqS n n && sameI i1 i2 i3 i4 i5 i1 i2 i3 i4 i5)) (([] : List AV) = [] ∧ Φ (.bool true) [.var [.sl 1 a d, .sl 1 b n, .int .i64 i1, .int .i64 i2, .int .i64 i3, .int .i64 i4, .int .i64 i5], .var [.sl 1 a' d', .sl 1 b' n', .int .i64 j1, .int .i64 j2, .int .i64 j3, .int .i64 j4, .int .i64 j5], .none, .none, .none, .none, .none, .none, .none, .none, .none, .none]) (Φ (.bool false) [.var [.sl 1 a d, .sl 1 b n, .int .i64 i1, .int .i64 i2, .int .i64 i3, .int .i64 i4, .int .i64 i5], .var [.sl 1 a' d', .sl 1 b' n', .int .i64 j1, .int .i64 j2, .int .i64 j3, .int .i64 j4, .int .i64 j5], .none, .none, .none, .none, .none, .none, .none, .none, .none, .none]))
        (Φ (.bool false) [.var [.sl 1 a d, .sl 1 b n, .int .i64 i1, .int .i64 i2, .int .i64 i3, .int .i64 i4, .int .i64 i5], .var [.sl 1 a' d', .sl 1 b' n', .int .i64 j1, .int .i64 j2, .int .i64 j3, .int .i64 j4, .int .i64 j5], .none, .none, .none, .none, .none, .none, .none, .none, .none, .none])))))) := by kernel_rfl
end Go.Proofs.YtdojencjbmahpaaGreatDoor
end
/-
  Of two replies: the contracts of the functions that compare them, and of the law.
-/
section
namespace Go.Proofs.YtdojencjbmahpaaGreatDoor
open Go.Rf
set_option maxRecDepth 100000
set_option linter.unusedVariables false

theorem rnFun_23 : IsFun Tryz.prog 23 Tryz.f23 := ⟨Tryz.func23, by kernel_rfl, by kernel_rfl⟩
theorem rnFun_12 : IsFun Tryz.prog 12 Tryz.f12 := ⟨Tryz.func12, by kernel_rfl, by kernel_rfl⟩
theorem nGE_sound : Sound Tryz.prog nGE := by intro f sp h; cases h
theorem fn61 : SpecSound Tryz.prog 61 (.fn C2B g2B) := dat_sound te_ok nGE_sound mixed rnFun_61 (by
  rintro xs Φ ⟨hC, h⟩
  unfold C2B at hC
  split at hC
  · rename_i a es b fs
    rw [v61]
    exact ⟨hC.1, hC.2, h⟩
  · cases hC)
theorem fn62 : SpecSound Tryz.prog 62 (.fn C2S g2S) := dat_sound te_ok nGE_sound mixed rnFun_62 (by
  rintro xs Φ ⟨hC, h⟩
  unfold C2S at hC
  split at hC
  · exact s62 _ _ hC.1 hC.2.1 hC.2.2 Φ h
  · cases hC)
theorem fn31 : SpecSound Tryz.prog 31 (.fn C2S g2S) := dat_sound te_ok nGE_sound mixed rnFun_31 (by
  rintro xs Φ ⟨hC, h⟩
  unfold C2S at hC
  split at hC
  · exact s31 _ _ hC.1 hC.2.1 hC.2.2 Φ h
  · cases hC)
theorem G35_sound : Sound Tryz.prog G35 := by
  intro f sp h
  unfold G35 at h
  split at h
  · cases h; exact fn61
  · cases h; exact fn62
  · cases h
theorem G23_sound : Sound Tryz.prog G23 := by
  intro f sp h
  unfold G23 at h
  split at h
  · cases h; exact fn31
  · cases h
theorem fn35 : SpecSound Tryz.prog 35 (.fn CSame gSame) := dat_sound te_ok G35_sound mixed rnFun_35 (by
  rintro xs Φ ⟨hC, h⟩
  unfold CSame at hC
  split at hC
  · obtain ⟨c1, c2, c3, c4, c5⟩ := hC
    simp only [gSame] at h
    rw [v35]
    refine ⟨⟨c1, c2⟩, ifB_both (fun h1 => ⟨⟨c3, c4, c5⟩, ifB_both (fun h2 => ?_) (fun h2 => ?_)⟩) (fun h1 => ?_)⟩
    · rw [h1, h2, Bool.true_and, Bool.true_and] at h; exact h
    · rw [h1, h2, Bool.true_and, Bool.false_and] at h; exact h
    · rw [h1, Bool.false_and] at h; exact h
  · cases hC)
theorem fn23 : SpecSound Tryz.prog 23 (.fn CSame gSame) := dat_sound te_ok G23_sound mixed rnFun_23 (by
  rintro xs Φ ⟨hC, h⟩
  unfold CSame at hC
  split at hC
  · obtain ⟨c1, c2, c3, c4, c5⟩ := hC
    simp only [gSame] at h
    rw [v23]
    refine ⟨c1, c2, ifB_both (fun h1 => ⟨⟨c3, c4, c5⟩, ifB_both (fun h2 => ?_) (fun h2 => ?_)⟩) (fun h1 => ?_)⟩
    · rw [h1, h2, Bool.true_and, Bool.true_and] at h; exact h
    · rw [h1, h2, Bool.true_and, Bool.false_and] at h; exact h
    · rw [h1, Bool.false_and] at h; exact h
  · cases hC)
theorem fn36 : SpecSound Tryz.prog 36 (.fn (fun xs => xs = []) (fun _ => .bool true)) := by
  rintro w S ρ xs args Φ hS hargs ⟨rfl, h⟩
  exact knownM_sound w S ρ [] args Φ hS hargs ⟨_, _, rfl, h⟩
theorem G12_sound : Sound Tryz.prog G12 := by
  intro f sp h
  unfold G12 at h
  split at h
  · cases h; exact fn35
  · cases h; exact fn23
  · cases h; exact fn36
  · cases h

theorem eqS_self : ∀ (es : List (List AV)), eqS es es = true
  | [] => rfl
  | e :: es => by simp only [eqS]; rw [eqS_self es, Bool.and_true]; exact beq_self_eq_true _
theorem eqB_self (es : List (List AV)) : eqB es es = true := beq_self_eq_true _
theorem sameI_self (a b c d e : Int) : sameI a b c d e a b c d e = true := by simp [sameI]

/-- What the law's arguments are. -/
def C12 : List AV → Prop
  | [.agg [.sl 1 _ d, .sl 1 _ n, .int .i64 _, .int .i64 _, .int .i64 _, .int .i64 _, .int .i64 _], .agg [.sl 1 _ d', .sl 1 _ n', .int .i64 _, .int .i64 _, .int .i64 _, .int .i64 _, .int .i64 _]] =>
    (∀ e ∈ d, isByte e) ∧ (∀ e ∈ d', isByte e) ∧ AllStr n ∧ AllStr n'
  | _ => False
theorem fn12 : SpecSound Tryz.prog 12 (.fn C12 (fun _ => .bool true)) := dat_sound te_ok G12_sound mixed rnFun_12 (by
  rintro xs Φ ⟨hC, h⟩
  unfold C12 at hC
  split at hC
  · obtain ⟨c1, c2, c3, c4⟩ := hC
    rw [v12]
    have h' : Φ (.bool true) .none := h
    refine ifB_both (fun _ => h') (fun _ => ifB_both (fun _ => h') (fun _ => ifB_both (fun _ => h') (fun h3 => ifB_both (fun _ => h') (fun h4 => ?_))))
    rw [not_leI] at h3
    have hn := of_decide_eq_false h3
    refine ⟨⟨c1, c2, c3, c4, by omega⟩, ⟨c1, c2, c3, c4, by omega⟩, ifB_both (fun _ => ⟨⟨c1, c1, c3, c3, by omega⟩, ifB_both (fun _ => ⟨rfl, h'⟩) (fun hf => ?_)⟩) (fun hf => ?_)⟩
    · rw [eqB_self, eqS_self, sameI_self] at hf
      cases hf
    · simp at hf
  · cases hC)
end Go.Proofs.YtdojencjbmahpaaGreatDoor
end
