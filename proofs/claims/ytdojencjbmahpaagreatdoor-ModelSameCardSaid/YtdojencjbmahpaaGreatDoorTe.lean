/-
  The type table of the third seat, for the symbolic executor.
-/
import Derived.Test.YtdojencjbmahpaaGreatDoorChecked
import Derived.Test.YtdojencjbmahpaaGreatDoorRf5
import Derived.KernelRfl
namespace Go.Proofs.YtdojencjbmahpaaGreatDoor
open Go.Rf
def te : TE := fun t => match t with
  | 2 => some ⟨.int .i64, 1, 8, [.int .i64 0], [], false⟩
  | 3 => some ⟨.int .i64, 1, 8, [.int .i64 0], [], false⟩
  | 4 => some ⟨.bool, 1, 1, [.bool false], [], false⟩
  | 5 => some ⟨.int .u8, 1, 1, [.int .u8 0], [], false⟩
  | 6 => some ⟨.int .u8, 1, 1, [.int .u8 0], [], false⟩
  | 7 => some ⟨.struct, 4, 24, [.int .i64 0, .int .i64 0, .bool false, .int .u8 0], [(0, 1, false), (1, 1, false), (2, 1, false), (3, 1, false)], true⟩
  | 8 => some ⟨.struct, 4, 24, [.int .i64 0, .int .i64 0, .bool false, .int .u8 0], [(0, 1, false), (1, 1, false), (2, 1, false), (3, 1, false)], true⟩
  | 9 => some ⟨.str, 1, 16, [.str ⟨#[]⟩], [], false⟩
  | 10 => some ⟨.str, 1, 16, [.str ⟨#[]⟩], [], false⟩
  | 11 => some ⟨.str, 1, 16, [.str ⟨#[]⟩], [], false⟩
  | 12 => some ⟨.int .u64, 1, 8, [.int .u64 0], [], false⟩
  | 21 => some ⟨.int .i32, 1, 4, [.int .i32 0], [], false⟩
  | 22 => some ⟨.slice 25, 1, 24, [.sl 7 true []], [], false⟩
  | 23 => some ⟨.slice 5, 1, 24, [.sl 1 true []], [], false⟩
  | 24 => some ⟨.struct, 7, 88, [.int .i64 0, .str ⟨#[]⟩, .str ⟨#[]⟩, .int .i64 0, .int .i64 0, .int .i64 0, .sl 1 true []], [(0, 1, false), (1, 1, false), (2, 1, false), (3, 1, false), (4, 1, false), (5, 1, false), (6, 1, false)], false⟩
  | 25 => some ⟨.struct, 7, 88, [.int .i64 0, .str ⟨#[]⟩, .str ⟨#[]⟩, .int .i64 0, .int .i64 0, .int .i64 0, .sl 1 true []], [(0, 1, false), (1, 1, false), (2, 1, false), (3, 1, false), (4, 1, false), (5, 1, false), (6, 1, false)], false⟩
  | 27 => some ⟨.slice 58, 1, 24, [.sl 8 true []], [], false⟩
  | 28 => some ⟨.struct, 4, 48, [.int .i64 0, .int .i64 0, .int .i64 0, .sl 8 true []], [(0, 1, false), (1, 1, false), (2, 1, false), (3, 1, false)], false⟩
  | 29 => some ⟨.struct, 4, 48, [.int .i64 0, .int .i64 0, .int .i64 0, .sl 8 true []], [(0, 1, false), (1, 1, false), (2, 1, false), (3, 1, false)], false⟩
  | 32 => some ⟨.slice 9, 1, 24, [.sl 1 true []], [], false⟩
  | 33 => some ⟨.struct, 5, 40, [.int .i64 0, .int .i64 0, .int .i64 0, .int .i64 0, .int .i64 0], [(0, 1, false), (1, 1, false), (2, 1, false), (3, 1, false), (4, 1, false)], true⟩
  | 34 => some ⟨.struct, 5, 40, [.int .i64 0, .int .i64 0, .int .i64 0, .int .i64 0, .int .i64 0], [(0, 1, false), (1, 1, false), (2, 1, false), (3, 1, false), (4, 1, false)], true⟩
  | 35 => some ⟨.struct, 7, 88, [.sl 1 true [], .sl 1 true [], .int .i64 0, .int .i64 0, .int .i64 0, .int .i64 0, .int .i64 0], [(0, 1, false), (1, 1, false), (2, 5, true)], false⟩
  | 36 => some ⟨.struct, 7, 88, [.sl 1 true [], .sl 1 true [], .int .i64 0, .int .i64 0, .int .i64 0, .int .i64 0, .int .i64 0], [(0, 1, false), (1, 1, false), (2, 5, true)], false⟩
  | 37 => some ⟨.int .i64, 1, 8, [.int .i64 0], [], false⟩
  | 53 => some ⟨.slice 135, 1, 24, [.sl 2 true []], [], false⟩
  | 54 => some ⟨.struct, 2, 32, [.int .i64 0, .sl 2 true []], [(0, 1, false), (1, 1, false)], false⟩
  | 55 => some ⟨.struct, 2, 32, [.int .i64 0, .sl 2 true []], [(0, 1, false), (1, 1, false)], false⟩
  | 56 => some ⟨.slice 111, 1, 24, [.sl 2 true []], [], false⟩
  | 57 => some ⟨.struct, 8, 104, [.int .i64 0, .int .i64 0, .int .i64 0, .int .i64 0, .int .i64 0, .sl 2 true [], .str ⟨#[]⟩, .sl 2 true []], [(0, 1, false), (1, 1, false), (2, 1, false), (3, 1, false), (4, 2, true), (6, 1, false), (7, 1, false)], false⟩
  | 58 => some ⟨.struct, 8, 104, [.int .i64 0, .int .i64 0, .int .i64 0, .int .i64 0, .int .i64 0, .sl 2 true [], .str ⟨#[]⟩, .sl 2 true []], [(0, 1, false), (1, 1, false), (2, 1, false), (3, 1, false), (4, 2, true), (6, 1, false), (7, 1, false)], false⟩
  | 62 => some ⟨.slice 32, 1, 24, [.sl 1 true []], [], false⟩
  | 65 => some ⟨.slice 37, 1, 24, [.sl 1 true []], [], false⟩
  | 78 => some ⟨.struct, 20, 272, [.int .i64 0, .int .i64 0, .int .i64 0, .sl 8 true [], .int .i64 0, .str ⟨#[]⟩, .str ⟨#[]⟩, .int .i64 0, .int .i64 0, .int .i64 0, .sl 1 true [], .sl 1 true [], .sl 1 true [], .sl 1 true [], .sl 1 true [], .int .i64 0, .int .i64 0, .int .i64 0, .int .i64 0, .int .i64 0], [(0, 4, true), (4, 7, true), (11, 1, false), (12, 1, false), (13, 7, true)], false⟩
  | 79 => some ⟨.struct, 20, 272, [.int .i64 0, .int .i64 0, .int .i64 0, .sl 8 true [], .int .i64 0, .str ⟨#[]⟩, .str ⟨#[]⟩, .int .i64 0, .int .i64 0, .int .i64 0, .sl 1 true [], .sl 1 true [], .sl 1 true [], .sl 1 true [], .sl 1 true [], .int .i64 0, .int .i64 0, .int .i64 0, .int .i64 0, .int .i64 0], [(0, 4, true), (4, 7, true), (11, 1, false), (12, 1, false), (13, 7, true)], false⟩
  | 85 => some ⟨.slice 2, 1, 24, [.sl 1 true []], [], false⟩
  | 93 => some ⟨.slice 3, 1, 24, [.sl 1 true []], [], false⟩
  | 101 => some ⟨.slice 29, 1, 24, [.sl 4 true []], [], false⟩
  | 110 => some ⟨.struct, 2, 24, [.str ⟨#[]⟩, .int .i64 0], [(0, 1, false), (1, 1, false)], true⟩
  | 111 => some ⟨.struct, 2, 24, [.str ⟨#[]⟩, .int .i64 0], [(0, 1, false), (1, 1, false)], true⟩
  | 134 => some ⟨.struct, 2, 32, [.int .i64 0, .sl 1 true []], [(0, 1, false), (1, 1, false)], false⟩
  | 135 => some ⟨.struct, 2, 32, [.int .i64 0, .sl 1 true []], [(0, 1, false), (1, 1, false)], false⟩
  | 190 => some ⟨.int .u64, 1, 8, [.int .u64 0], [], false⟩
  | 203 => some ⟨.int .u32, 1, 4, [.int .u32 0], [], false⟩
  | 209 => some ⟨.struct, 2, 2, [.int .u8 0, .int .u8 0], [(0, 1, false), (1, 1, false)], true⟩
  | 210 => some ⟨.struct, 2, 2, [.int .u8 0, .int .u8 0], [(0, 1, false), (1, 1, false)], true⟩
  | _ => none
theorem te_2 : te 2 = some ⟨.int .i64, 1, 8, [.int .i64 0], [], false⟩ := rfl
theorem te_3 : te 3 = some ⟨.int .i64, 1, 8, [.int .i64 0], [], false⟩ := rfl
theorem te_4 : te 4 = some ⟨.bool, 1, 1, [.bool false], [], false⟩ := rfl
theorem te_5 : te 5 = some ⟨.int .u8, 1, 1, [.int .u8 0], [], false⟩ := rfl
theorem te_6 : te 6 = some ⟨.int .u8, 1, 1, [.int .u8 0], [], false⟩ := rfl
theorem te_7 : te 7 = some ⟨.struct, 4, 24, [.int .i64 0, .int .i64 0, .bool false, .int .u8 0], [(0, 1, false), (1, 1, false), (2, 1, false), (3, 1, false)], true⟩ := rfl
theorem te_8 : te 8 = some ⟨.struct, 4, 24, [.int .i64 0, .int .i64 0, .bool false, .int .u8 0], [(0, 1, false), (1, 1, false), (2, 1, false), (3, 1, false)], true⟩ := rfl
theorem te_9 : te 9 = some ⟨.str, 1, 16, [.str ⟨#[]⟩], [], false⟩ := rfl
theorem te_10 : te 10 = some ⟨.str, 1, 16, [.str ⟨#[]⟩], [], false⟩ := rfl
theorem te_11 : te 11 = some ⟨.str, 1, 16, [.str ⟨#[]⟩], [], false⟩ := rfl
theorem te_12 : te 12 = some ⟨.int .u64, 1, 8, [.int .u64 0], [], false⟩ := rfl
theorem te_21 : te 21 = some ⟨.int .i32, 1, 4, [.int .i32 0], [], false⟩ := rfl
theorem te_22 : te 22 = some ⟨.slice 25, 1, 24, [.sl 7 true []], [], false⟩ := rfl
theorem te_23 : te 23 = some ⟨.slice 5, 1, 24, [.sl 1 true []], [], false⟩ := rfl
theorem te_24 : te 24 = some ⟨.struct, 7, 88, [.int .i64 0, .str ⟨#[]⟩, .str ⟨#[]⟩, .int .i64 0, .int .i64 0, .int .i64 0, .sl 1 true []], [(0, 1, false), (1, 1, false), (2, 1, false), (3, 1, false), (4, 1, false), (5, 1, false), (6, 1, false)], false⟩ := rfl
theorem te_25 : te 25 = some ⟨.struct, 7, 88, [.int .i64 0, .str ⟨#[]⟩, .str ⟨#[]⟩, .int .i64 0, .int .i64 0, .int .i64 0, .sl 1 true []], [(0, 1, false), (1, 1, false), (2, 1, false), (3, 1, false), (4, 1, false), (5, 1, false), (6, 1, false)], false⟩ := rfl
theorem te_27 : te 27 = some ⟨.slice 58, 1, 24, [.sl 8 true []], [], false⟩ := rfl
theorem te_28 : te 28 = some ⟨.struct, 4, 48, [.int .i64 0, .int .i64 0, .int .i64 0, .sl 8 true []], [(0, 1, false), (1, 1, false), (2, 1, false), (3, 1, false)], false⟩ := rfl
theorem te_29 : te 29 = some ⟨.struct, 4, 48, [.int .i64 0, .int .i64 0, .int .i64 0, .sl 8 true []], [(0, 1, false), (1, 1, false), (2, 1, false), (3, 1, false)], false⟩ := rfl
theorem te_32 : te 32 = some ⟨.slice 9, 1, 24, [.sl 1 true []], [], false⟩ := rfl
theorem te_33 : te 33 = some ⟨.struct, 5, 40, [.int .i64 0, .int .i64 0, .int .i64 0, .int .i64 0, .int .i64 0], [(0, 1, false), (1, 1, false), (2, 1, false), (3, 1, false), (4, 1, false)], true⟩ := rfl
theorem te_34 : te 34 = some ⟨.struct, 5, 40, [.int .i64 0, .int .i64 0, .int .i64 0, .int .i64 0, .int .i64 0], [(0, 1, false), (1, 1, false), (2, 1, false), (3, 1, false), (4, 1, false)], true⟩ := rfl
theorem te_35 : te 35 = some ⟨.struct, 7, 88, [.sl 1 true [], .sl 1 true [], .int .i64 0, .int .i64 0, .int .i64 0, .int .i64 0, .int .i64 0], [(0, 1, false), (1, 1, false), (2, 5, true)], false⟩ := rfl
theorem te_36 : te 36 = some ⟨.struct, 7, 88, [.sl 1 true [], .sl 1 true [], .int .i64 0, .int .i64 0, .int .i64 0, .int .i64 0, .int .i64 0], [(0, 1, false), (1, 1, false), (2, 5, true)], false⟩ := rfl
theorem te_37 : te 37 = some ⟨.int .i64, 1, 8, [.int .i64 0], [], false⟩ := rfl
theorem te_53 : te 53 = some ⟨.slice 135, 1, 24, [.sl 2 true []], [], false⟩ := rfl
theorem te_54 : te 54 = some ⟨.struct, 2, 32, [.int .i64 0, .sl 2 true []], [(0, 1, false), (1, 1, false)], false⟩ := rfl
theorem te_55 : te 55 = some ⟨.struct, 2, 32, [.int .i64 0, .sl 2 true []], [(0, 1, false), (1, 1, false)], false⟩ := rfl
theorem te_56 : te 56 = some ⟨.slice 111, 1, 24, [.sl 2 true []], [], false⟩ := rfl
theorem te_57 : te 57 = some ⟨.struct, 8, 104, [.int .i64 0, .int .i64 0, .int .i64 0, .int .i64 0, .int .i64 0, .sl 2 true [], .str ⟨#[]⟩, .sl 2 true []], [(0, 1, false), (1, 1, false), (2, 1, false), (3, 1, false), (4, 2, true), (6, 1, false), (7, 1, false)], false⟩ := rfl
theorem te_58 : te 58 = some ⟨.struct, 8, 104, [.int .i64 0, .int .i64 0, .int .i64 0, .int .i64 0, .int .i64 0, .sl 2 true [], .str ⟨#[]⟩, .sl 2 true []], [(0, 1, false), (1, 1, false), (2, 1, false), (3, 1, false), (4, 2, true), (6, 1, false), (7, 1, false)], false⟩ := rfl
theorem te_62 : te 62 = some ⟨.slice 32, 1, 24, [.sl 1 true []], [], false⟩ := rfl
theorem te_65 : te 65 = some ⟨.slice 37, 1, 24, [.sl 1 true []], [], false⟩ := rfl
theorem te_78 : te 78 = some ⟨.struct, 20, 272, [.int .i64 0, .int .i64 0, .int .i64 0, .sl 8 true [], .int .i64 0, .str ⟨#[]⟩, .str ⟨#[]⟩, .int .i64 0, .int .i64 0, .int .i64 0, .sl 1 true [], .sl 1 true [], .sl 1 true [], .sl 1 true [], .sl 1 true [], .int .i64 0, .int .i64 0, .int .i64 0, .int .i64 0, .int .i64 0], [(0, 4, true), (4, 7, true), (11, 1, false), (12, 1, false), (13, 7, true)], false⟩ := rfl
theorem te_79 : te 79 = some ⟨.struct, 20, 272, [.int .i64 0, .int .i64 0, .int .i64 0, .sl 8 true [], .int .i64 0, .str ⟨#[]⟩, .str ⟨#[]⟩, .int .i64 0, .int .i64 0, .int .i64 0, .sl 1 true [], .sl 1 true [], .sl 1 true [], .sl 1 true [], .sl 1 true [], .int .i64 0, .int .i64 0, .int .i64 0, .int .i64 0, .int .i64 0], [(0, 4, true), (4, 7, true), (11, 1, false), (12, 1, false), (13, 7, true)], false⟩ := rfl
theorem te_85 : te 85 = some ⟨.slice 2, 1, 24, [.sl 1 true []], [], false⟩ := rfl
theorem te_93 : te 93 = some ⟨.slice 3, 1, 24, [.sl 1 true []], [], false⟩ := rfl
theorem te_101 : te 101 = some ⟨.slice 29, 1, 24, [.sl 4 true []], [], false⟩ := rfl
theorem te_110 : te 110 = some ⟨.struct, 2, 24, [.str ⟨#[]⟩, .int .i64 0], [(0, 1, false), (1, 1, false)], true⟩ := rfl
theorem te_111 : te 111 = some ⟨.struct, 2, 24, [.str ⟨#[]⟩, .int .i64 0], [(0, 1, false), (1, 1, false)], true⟩ := rfl
theorem te_134 : te 134 = some ⟨.struct, 2, 32, [.int .i64 0, .sl 1 true []], [(0, 1, false), (1, 1, false)], false⟩ := rfl
theorem te_135 : te 135 = some ⟨.struct, 2, 32, [.int .i64 0, .sl 1 true []], [(0, 1, false), (1, 1, false)], false⟩ := rfl
theorem te_190 : te 190 = some ⟨.int .u64, 1, 8, [.int .u64 0], [], false⟩ := rfl
theorem te_203 : te 203 = some ⟨.int .u32, 1, 4, [.int .u32 0], [], false⟩ := rfl
theorem te_209 : te 209 = some ⟨.struct, 2, 2, [.int .u8 0, .int .u8 0], [(0, 1, false), (1, 1, false)], true⟩ := rfl
theorem te_210 : te 210 = some ⟨.struct, 2, 2, [.int .u8 0, .int .u8 0], [(0, 1, false), (1, 1, false)], true⟩ := rfl
theorem tiok_2 : tiOK Tryz.prog 2 ⟨.int .i64, 1, 8, [.int .i64 0], [], false⟩ = true := by kernel_rfl
theorem tiok_3 : tiOK Tryz.prog 3 ⟨.int .i64, 1, 8, [.int .i64 0], [], false⟩ = true := by kernel_rfl
theorem tiok_4 : tiOK Tryz.prog 4 ⟨.bool, 1, 1, [.bool false], [], false⟩ = true := by kernel_rfl
theorem tiok_5 : tiOK Tryz.prog 5 ⟨.int .u8, 1, 1, [.int .u8 0], [], false⟩ = true := by kernel_rfl
theorem tiok_6 : tiOK Tryz.prog 6 ⟨.int .u8, 1, 1, [.int .u8 0], [], false⟩ = true := by kernel_rfl
theorem tiok_7 : tiOK Tryz.prog 7 ⟨.struct, 4, 24, [.int .i64 0, .int .i64 0, .bool false, .int .u8 0], [(0, 1, false), (1, 1, false), (2, 1, false), (3, 1, false)], true⟩ = true := by kernel_rfl
theorem tiok_8 : tiOK Tryz.prog 8 ⟨.struct, 4, 24, [.int .i64 0, .int .i64 0, .bool false, .int .u8 0], [(0, 1, false), (1, 1, false), (2, 1, false), (3, 1, false)], true⟩ = true := by kernel_rfl
theorem tiok_9 : tiOK Tryz.prog 9 ⟨.str, 1, 16, [.str ⟨#[]⟩], [], false⟩ = true := by kernel_rfl
theorem tiok_10 : tiOK Tryz.prog 10 ⟨.str, 1, 16, [.str ⟨#[]⟩], [], false⟩ = true := by kernel_rfl
theorem tiok_11 : tiOK Tryz.prog 11 ⟨.str, 1, 16, [.str ⟨#[]⟩], [], false⟩ = true := by kernel_rfl
theorem tiok_12 : tiOK Tryz.prog 12 ⟨.int .u64, 1, 8, [.int .u64 0], [], false⟩ = true := by kernel_rfl
theorem tiok_21 : tiOK Tryz.prog 21 ⟨.int .i32, 1, 4, [.int .i32 0], [], false⟩ = true := by kernel_rfl
theorem tiok_22 : tiOK Tryz.prog 22 ⟨.slice 25, 1, 24, [.sl 7 true []], [], false⟩ = true := by kernel_rfl
theorem tiok_23 : tiOK Tryz.prog 23 ⟨.slice 5, 1, 24, [.sl 1 true []], [], false⟩ = true := by kernel_rfl
theorem tiok_24 : tiOK Tryz.prog 24 ⟨.struct, 7, 88, [.int .i64 0, .str ⟨#[]⟩, .str ⟨#[]⟩, .int .i64 0, .int .i64 0, .int .i64 0, .sl 1 true []], [(0, 1, false), (1, 1, false), (2, 1, false), (3, 1, false), (4, 1, false), (5, 1, false), (6, 1, false)], false⟩ = true := by kernel_rfl
theorem tiok_25 : tiOK Tryz.prog 25 ⟨.struct, 7, 88, [.int .i64 0, .str ⟨#[]⟩, .str ⟨#[]⟩, .int .i64 0, .int .i64 0, .int .i64 0, .sl 1 true []], [(0, 1, false), (1, 1, false), (2, 1, false), (3, 1, false), (4, 1, false), (5, 1, false), (6, 1, false)], false⟩ = true := by kernel_rfl
theorem tiok_27 : tiOK Tryz.prog 27 ⟨.slice 58, 1, 24, [.sl 8 true []], [], false⟩ = true := by kernel_rfl
theorem tiok_28 : tiOK Tryz.prog 28 ⟨.struct, 4, 48, [.int .i64 0, .int .i64 0, .int .i64 0, .sl 8 true []], [(0, 1, false), (1, 1, false), (2, 1, false), (3, 1, false)], false⟩ = true := by kernel_rfl
theorem tiok_29 : tiOK Tryz.prog 29 ⟨.struct, 4, 48, [.int .i64 0, .int .i64 0, .int .i64 0, .sl 8 true []], [(0, 1, false), (1, 1, false), (2, 1, false), (3, 1, false)], false⟩ = true := by kernel_rfl
theorem tiok_32 : tiOK Tryz.prog 32 ⟨.slice 9, 1, 24, [.sl 1 true []], [], false⟩ = true := by kernel_rfl
theorem tiok_33 : tiOK Tryz.prog 33 ⟨.struct, 5, 40, [.int .i64 0, .int .i64 0, .int .i64 0, .int .i64 0, .int .i64 0], [(0, 1, false), (1, 1, false), (2, 1, false), (3, 1, false), (4, 1, false)], true⟩ = true := by kernel_rfl
theorem tiok_34 : tiOK Tryz.prog 34 ⟨.struct, 5, 40, [.int .i64 0, .int .i64 0, .int .i64 0, .int .i64 0, .int .i64 0], [(0, 1, false), (1, 1, false), (2, 1, false), (3, 1, false), (4, 1, false)], true⟩ = true := by kernel_rfl
theorem tiok_35 : tiOK Tryz.prog 35 ⟨.struct, 7, 88, [.sl 1 true [], .sl 1 true [], .int .i64 0, .int .i64 0, .int .i64 0, .int .i64 0, .int .i64 0], [(0, 1, false), (1, 1, false), (2, 5, true)], false⟩ = true := by kernel_rfl
theorem tiok_36 : tiOK Tryz.prog 36 ⟨.struct, 7, 88, [.sl 1 true [], .sl 1 true [], .int .i64 0, .int .i64 0, .int .i64 0, .int .i64 0, .int .i64 0], [(0, 1, false), (1, 1, false), (2, 5, true)], false⟩ = true := by kernel_rfl
theorem tiok_37 : tiOK Tryz.prog 37 ⟨.int .i64, 1, 8, [.int .i64 0], [], false⟩ = true := by kernel_rfl
theorem tiok_53 : tiOK Tryz.prog 53 ⟨.slice 135, 1, 24, [.sl 2 true []], [], false⟩ = true := by kernel_rfl
theorem tiok_54 : tiOK Tryz.prog 54 ⟨.struct, 2, 32, [.int .i64 0, .sl 2 true []], [(0, 1, false), (1, 1, false)], false⟩ = true := by kernel_rfl
theorem tiok_55 : tiOK Tryz.prog 55 ⟨.struct, 2, 32, [.int .i64 0, .sl 2 true []], [(0, 1, false), (1, 1, false)], false⟩ = true := by kernel_rfl
theorem tiok_56 : tiOK Tryz.prog 56 ⟨.slice 111, 1, 24, [.sl 2 true []], [], false⟩ = true := by kernel_rfl
theorem tiok_57 : tiOK Tryz.prog 57 ⟨.struct, 8, 104, [.int .i64 0, .int .i64 0, .int .i64 0, .int .i64 0, .int .i64 0, .sl 2 true [], .str ⟨#[]⟩, .sl 2 true []], [(0, 1, false), (1, 1, false), (2, 1, false), (3, 1, false), (4, 2, true), (6, 1, false), (7, 1, false)], false⟩ = true := by kernel_rfl
theorem tiok_58 : tiOK Tryz.prog 58 ⟨.struct, 8, 104, [.int .i64 0, .int .i64 0, .int .i64 0, .int .i64 0, .int .i64 0, .sl 2 true [], .str ⟨#[]⟩, .sl 2 true []], [(0, 1, false), (1, 1, false), (2, 1, false), (3, 1, false), (4, 2, true), (6, 1, false), (7, 1, false)], false⟩ = true := by kernel_rfl
theorem tiok_62 : tiOK Tryz.prog 62 ⟨.slice 32, 1, 24, [.sl 1 true []], [], false⟩ = true := by kernel_rfl
theorem tiok_65 : tiOK Tryz.prog 65 ⟨.slice 37, 1, 24, [.sl 1 true []], [], false⟩ = true := by kernel_rfl
theorem tiok_78 : tiOK Tryz.prog 78 ⟨.struct, 20, 272, [.int .i64 0, .int .i64 0, .int .i64 0, .sl 8 true [], .int .i64 0, .str ⟨#[]⟩, .str ⟨#[]⟩, .int .i64 0, .int .i64 0, .int .i64 0, .sl 1 true [], .sl 1 true [], .sl 1 true [], .sl 1 true [], .sl 1 true [], .int .i64 0, .int .i64 0, .int .i64 0, .int .i64 0, .int .i64 0], [(0, 4, true), (4, 7, true), (11, 1, false), (12, 1, false), (13, 7, true)], false⟩ = true := by kernel_rfl
theorem tiok_79 : tiOK Tryz.prog 79 ⟨.struct, 20, 272, [.int .i64 0, .int .i64 0, .int .i64 0, .sl 8 true [], .int .i64 0, .str ⟨#[]⟩, .str ⟨#[]⟩, .int .i64 0, .int .i64 0, .int .i64 0, .sl 1 true [], .sl 1 true [], .sl 1 true [], .sl 1 true [], .sl 1 true [], .int .i64 0, .int .i64 0, .int .i64 0, .int .i64 0, .int .i64 0], [(0, 4, true), (4, 7, true), (11, 1, false), (12, 1, false), (13, 7, true)], false⟩ = true := by kernel_rfl
theorem tiok_85 : tiOK Tryz.prog 85 ⟨.slice 2, 1, 24, [.sl 1 true []], [], false⟩ = true := by kernel_rfl
theorem tiok_93 : tiOK Tryz.prog 93 ⟨.slice 3, 1, 24, [.sl 1 true []], [], false⟩ = true := by kernel_rfl
theorem tiok_101 : tiOK Tryz.prog 101 ⟨.slice 29, 1, 24, [.sl 4 true []], [], false⟩ = true := by kernel_rfl
theorem tiok_110 : tiOK Tryz.prog 110 ⟨.struct, 2, 24, [.str ⟨#[]⟩, .int .i64 0], [(0, 1, false), (1, 1, false)], true⟩ = true := by kernel_rfl
theorem tiok_111 : tiOK Tryz.prog 111 ⟨.struct, 2, 24, [.str ⟨#[]⟩, .int .i64 0], [(0, 1, false), (1, 1, false)], true⟩ = true := by kernel_rfl
theorem tiok_134 : tiOK Tryz.prog 134 ⟨.struct, 2, 32, [.int .i64 0, .sl 1 true []], [(0, 1, false), (1, 1, false)], false⟩ = true := by kernel_rfl
theorem tiok_135 : tiOK Tryz.prog 135 ⟨.struct, 2, 32, [.int .i64 0, .sl 1 true []], [(0, 1, false), (1, 1, false)], false⟩ = true := by kernel_rfl
theorem tiok_190 : tiOK Tryz.prog 190 ⟨.int .u64, 1, 8, [.int .u64 0], [], false⟩ = true := by kernel_rfl
theorem tiok_203 : tiOK Tryz.prog 203 ⟨.int .u32, 1, 4, [.int .u32 0], [], false⟩ = true := by kernel_rfl
theorem tiok_209 : tiOK Tryz.prog 209 ⟨.struct, 2, 2, [.int .u8 0, .int .u8 0], [(0, 1, false), (1, 1, false)], true⟩ = true := by kernel_rfl
theorem tiok_210 : tiOK Tryz.prog 210 ⟨.struct, 2, 2, [.int .u8 0, .int .u8 0], [(0, 1, false), (1, 1, false)], true⟩ = true := by kernel_rfl
theorem te_ok : TEok Tryz.prog te := by
  intro t i h
  unfold te at h
  split at h
  · cases h; exact tiok_2
  · cases h; exact tiok_3
  · cases h; exact tiok_4
  · cases h; exact tiok_5
  · cases h; exact tiok_6
  · cases h; exact tiok_7
  · cases h; exact tiok_8
  · cases h; exact tiok_9
  · cases h; exact tiok_10
  · cases h; exact tiok_11
  · cases h; exact tiok_12
  · cases h; exact tiok_21
  · cases h; exact tiok_22
  · cases h; exact tiok_23
  · cases h; exact tiok_24
  · cases h; exact tiok_25
  · cases h; exact tiok_27
  · cases h; exact tiok_28
  · cases h; exact tiok_29
  · cases h; exact tiok_32
  · cases h; exact tiok_33
  · cases h; exact tiok_34
  · cases h; exact tiok_35
  · cases h; exact tiok_36
  · cases h; exact tiok_37
  · cases h; exact tiok_53
  · cases h; exact tiok_54
  · cases h; exact tiok_55
  · cases h; exact tiok_56
  · cases h; exact tiok_57
  · cases h; exact tiok_58
  · cases h; exact tiok_62
  · cases h; exact tiok_65
  · cases h; exact tiok_78
  · cases h; exact tiok_79
  · cases h; exact tiok_85
  · cases h; exact tiok_93
  · cases h; exact tiok_101
  · cases h; exact tiok_110
  · cases h; exact tiok_111
  · cases h; exact tiok_134
  · cases h; exact tiok_135
  · cases h; exact tiok_190
  · cases h; exact tiok_203
  · cases h; exact tiok_209
  · cases h; exact tiok_210
  · cases h
theorem mixed : Tryz.prog.follows .mixedOrders = true := by kernel_rfl
end Go.Proofs.YtdojencjbmahpaaGreatDoor
