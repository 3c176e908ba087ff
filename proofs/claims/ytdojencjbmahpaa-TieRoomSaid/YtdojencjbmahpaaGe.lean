/-
  Texts of the proof, put together: Te, Lb, Pz, Qa, Qb, Qc, Qd, Qe.
-/
import Derived.Test.YtdojencjbmahpaaChecked
import Derived.Test.YtdojencjbmahpaaGa
import Derived.KernelRfl
import Derived.Test.YtdojencjbmahpaaGd
import Derived.Test.YtdojencjbmahpaaProg
/-
  The type table of the first seat, for the symbolic executor.
-/
section
namespace Go.Proofs.Ytdojencjbmahpaa
open Go.Rf
def te : TE := fun t => match t with
  | 2 => some ⟨.int .i64, 1, 8, [.int .i64 0], [], false⟩
  | 3 => some ⟨.int .i64, 1, 8, [.int .i64 0], [], false⟩
  | 4 => some ⟨.bool, 1, 1, [.bool false], [], false⟩
  | 5 => some ⟨.int .u8, 1, 1, [.int .u8 0], [], false⟩
  | 9 => some ⟨.str, 1, 16, [.str ⟨#[]⟩], [], false⟩
  | 22 => some ⟨.slice 37, 1, 24, [.sl 8 true []], [], false⟩
  | 24 => some ⟨.struct, 4, 48, [.int .i64 0, .int .i64 0, .int .i64 0, .sl 8 true []], [(0, 1, false), (1, 1, false), (2, 1, false), (3, 1, false)], false⟩
  | 26 => some ⟨.slice 31, 1, 24, [.sl 2 true []], [], false⟩
  | 28 => some ⟨.struct, 2, 32, [.int .i64 0, .sl 2 true []], [(0, 1, false), (1, 1, false)], false⟩
  | 29 => some ⟨.slice 5, 1, 24, [.sl 1 true []], [], false⟩
  | 31 => some ⟨.struct, 2, 32, [.int .i64 0, .sl 1 true []], [(0, 1, false), (1, 1, false)], false⟩
  | 32 => some ⟨.int .i64, 1, 8, [.int .i64 0], [], false⟩
  | 35 => some ⟨.slice 102, 1, 24, [.sl 2 true []], [], false⟩
  | 37 => some ⟨.struct, 8, 104, [.int .i64 0, .int .i64 0, .int .i64 0, .int .i64 0, .int .i64 0, .sl 2 true [], .str ⟨#[]⟩, .sl 2 true []], [(0, 1, false), (1, 1, false), (2, 1, false), (3, 1, false), (4, 2, true), (6, 1, false), (7, 1, false)], false⟩
  | 50 => some ⟨.struct, 5, 40, [.int .i64 0, .int .i64 0, .int .i64 0, .int .i64 0, .int .i64 0], [(0, 1, false), (1, 1, false), (2, 1, false), (3, 1, false), (4, 1, false)], true⟩
  | 66 => some ⟨.struct, 7, 88, [.int .i64 0, .str ⟨#[]⟩, .str ⟨#[]⟩, .int .i64 0, .int .i64 0, .int .i64 0, .sl 1 true []], [(0, 1, false), (1, 1, false), (2, 1, false), (3, 1, false), (4, 1, false), (5, 1, false), (6, 1, false)], false⟩
  | 67 => some ⟨.slice 66, 1, 24, [.sl 7 true []], [], false⟩
  | 68 => some ⟨.slice 32, 1, 24, [.sl 1 true []], [], false⟩
  | 69 => some ⟨.slice 3, 1, 24, [.sl 1 true []], [], false⟩
  | 86 => some ⟨.slice 24, 1, 24, [.sl 4 true []], [], false⟩
  | 89 => some ⟨.slice 2, 1, 24, [.sl 1 true []], [], false⟩
  | 94 => some ⟨.slice 9, 1, 24, [.sl 1 true []], [], false⟩
  | 96 => some ⟨.struct, 7, 88, [.sl 1 true [], .sl 1 true [], .int .i64 0, .int .i64 0, .int .i64 0, .int .i64 0, .int .i64 0], [(0, 1, false), (1, 1, false), (2, 5, true)], false⟩
  | 102 => some ⟨.struct, 2, 24, [.str ⟨#[]⟩, .int .i64 0], [(0, 1, false), (1, 1, false)], true⟩
  | 154 => some ⟨.int .u64, 1, 8, [.int .u64 0], [], false⟩
  | _ => none
theorem te_2 : te 2 = some ⟨.int .i64, 1, 8, [.int .i64 0], [], false⟩ := rfl
theorem te_3 : te 3 = some ⟨.int .i64, 1, 8, [.int .i64 0], [], false⟩ := rfl
theorem te_4 : te 4 = some ⟨.bool, 1, 1, [.bool false], [], false⟩ := rfl
theorem te_5 : te 5 = some ⟨.int .u8, 1, 1, [.int .u8 0], [], false⟩ := rfl
theorem te_9 : te 9 = some ⟨.str, 1, 16, [.str ⟨#[]⟩], [], false⟩ := rfl
theorem te_22 : te 22 = some ⟨.slice 37, 1, 24, [.sl 8 true []], [], false⟩ := rfl
theorem te_24 : te 24 = some ⟨.struct, 4, 48, [.int .i64 0, .int .i64 0, .int .i64 0, .sl 8 true []], [(0, 1, false), (1, 1, false), (2, 1, false), (3, 1, false)], false⟩ := rfl
theorem te_26 : te 26 = some ⟨.slice 31, 1, 24, [.sl 2 true []], [], false⟩ := rfl
theorem te_28 : te 28 = some ⟨.struct, 2, 32, [.int .i64 0, .sl 2 true []], [(0, 1, false), (1, 1, false)], false⟩ := rfl
theorem te_29 : te 29 = some ⟨.slice 5, 1, 24, [.sl 1 true []], [], false⟩ := rfl
theorem te_31 : te 31 = some ⟨.struct, 2, 32, [.int .i64 0, .sl 1 true []], [(0, 1, false), (1, 1, false)], false⟩ := rfl
theorem te_32 : te 32 = some ⟨.int .i64, 1, 8, [.int .i64 0], [], false⟩ := rfl
theorem te_35 : te 35 = some ⟨.slice 102, 1, 24, [.sl 2 true []], [], false⟩ := rfl
theorem te_37 : te 37 = some ⟨.struct, 8, 104, [.int .i64 0, .int .i64 0, .int .i64 0, .int .i64 0, .int .i64 0, .sl 2 true [], .str ⟨#[]⟩, .sl 2 true []], [(0, 1, false), (1, 1, false), (2, 1, false), (3, 1, false), (4, 2, true), (6, 1, false), (7, 1, false)], false⟩ := rfl
theorem te_50 : te 50 = some ⟨.struct, 5, 40, [.int .i64 0, .int .i64 0, .int .i64 0, .int .i64 0, .int .i64 0], [(0, 1, false), (1, 1, false), (2, 1, false), (3, 1, false), (4, 1, false)], true⟩ := rfl
theorem te_66 : te 66 = some ⟨.struct, 7, 88, [.int .i64 0, .str ⟨#[]⟩, .str ⟨#[]⟩, .int .i64 0, .int .i64 0, .int .i64 0, .sl 1 true []], [(0, 1, false), (1, 1, false), (2, 1, false), (3, 1, false), (4, 1, false), (5, 1, false), (6, 1, false)], false⟩ := rfl
theorem te_67 : te 67 = some ⟨.slice 66, 1, 24, [.sl 7 true []], [], false⟩ := rfl
theorem te_68 : te 68 = some ⟨.slice 32, 1, 24, [.sl 1 true []], [], false⟩ := rfl
theorem te_69 : te 69 = some ⟨.slice 3, 1, 24, [.sl 1 true []], [], false⟩ := rfl
theorem te_86 : te 86 = some ⟨.slice 24, 1, 24, [.sl 4 true []], [], false⟩ := rfl
theorem te_89 : te 89 = some ⟨.slice 2, 1, 24, [.sl 1 true []], [], false⟩ := rfl
theorem te_94 : te 94 = some ⟨.slice 9, 1, 24, [.sl 1 true []], [], false⟩ := rfl
theorem te_96 : te 96 = some ⟨.struct, 7, 88, [.sl 1 true [], .sl 1 true [], .int .i64 0, .int .i64 0, .int .i64 0, .int .i64 0, .int .i64 0], [(0, 1, false), (1, 1, false), (2, 5, true)], false⟩ := rfl
theorem te_102 : te 102 = some ⟨.struct, 2, 24, [.str ⟨#[]⟩, .int .i64 0], [(0, 1, false), (1, 1, false)], true⟩ := rfl
theorem te_154 : te 154 = some ⟨.int .u64, 1, 8, [.int .u64 0], [], false⟩ := rfl
theorem tiok_2 : tiOK Try.prog 2 ⟨.int .i64, 1, 8, [.int .i64 0], [], false⟩ = true := by kernel_rfl
theorem tiok_3 : tiOK Try.prog 3 ⟨.int .i64, 1, 8, [.int .i64 0], [], false⟩ = true := by kernel_rfl
theorem tiok_4 : tiOK Try.prog 4 ⟨.bool, 1, 1, [.bool false], [], false⟩ = true := by kernel_rfl
theorem tiok_5 : tiOK Try.prog 5 ⟨.int .u8, 1, 1, [.int .u8 0], [], false⟩ = true := by kernel_rfl
theorem tiok_9 : tiOK Try.prog 9 ⟨.str, 1, 16, [.str ⟨#[]⟩], [], false⟩ = true := by kernel_rfl
theorem tiok_22 : tiOK Try.prog 22 ⟨.slice 37, 1, 24, [.sl 8 true []], [], false⟩ = true := by kernel_rfl
theorem tiok_24 : tiOK Try.prog 24 ⟨.struct, 4, 48, [.int .i64 0, .int .i64 0, .int .i64 0, .sl 8 true []], [(0, 1, false), (1, 1, false), (2, 1, false), (3, 1, false)], false⟩ = true := by kernel_rfl
theorem tiok_26 : tiOK Try.prog 26 ⟨.slice 31, 1, 24, [.sl 2 true []], [], false⟩ = true := by kernel_rfl
theorem tiok_28 : tiOK Try.prog 28 ⟨.struct, 2, 32, [.int .i64 0, .sl 2 true []], [(0, 1, false), (1, 1, false)], false⟩ = true := by kernel_rfl
theorem tiok_29 : tiOK Try.prog 29 ⟨.slice 5, 1, 24, [.sl 1 true []], [], false⟩ = true := by kernel_rfl
theorem tiok_31 : tiOK Try.prog 31 ⟨.struct, 2, 32, [.int .i64 0, .sl 1 true []], [(0, 1, false), (1, 1, false)], false⟩ = true := by kernel_rfl
theorem tiok_32 : tiOK Try.prog 32 ⟨.int .i64, 1, 8, [.int .i64 0], [], false⟩ = true := by kernel_rfl
theorem tiok_35 : tiOK Try.prog 35 ⟨.slice 102, 1, 24, [.sl 2 true []], [], false⟩ = true := by kernel_rfl
theorem tiok_37 : tiOK Try.prog 37 ⟨.struct, 8, 104, [.int .i64 0, .int .i64 0, .int .i64 0, .int .i64 0, .int .i64 0, .sl 2 true [], .str ⟨#[]⟩, .sl 2 true []], [(0, 1, false), (1, 1, false), (2, 1, false), (3, 1, false), (4, 2, true), (6, 1, false), (7, 1, false)], false⟩ = true := by kernel_rfl
theorem tiok_50 : tiOK Try.prog 50 ⟨.struct, 5, 40, [.int .i64 0, .int .i64 0, .int .i64 0, .int .i64 0, .int .i64 0], [(0, 1, false), (1, 1, false), (2, 1, false), (3, 1, false), (4, 1, false)], true⟩ = true := by kernel_rfl
theorem tiok_66 : tiOK Try.prog 66 ⟨.struct, 7, 88, [.int .i64 0, .str ⟨#[]⟩, .str ⟨#[]⟩, .int .i64 0, .int .i64 0, .int .i64 0, .sl 1 true []], [(0, 1, false), (1, 1, false), (2, 1, false), (3, 1, false), (4, 1, false), (5, 1, false), (6, 1, false)], false⟩ = true := by kernel_rfl
theorem tiok_67 : tiOK Try.prog 67 ⟨.slice 66, 1, 24, [.sl 7 true []], [], false⟩ = true := by kernel_rfl
theorem tiok_68 : tiOK Try.prog 68 ⟨.slice 32, 1, 24, [.sl 1 true []], [], false⟩ = true := by kernel_rfl
theorem tiok_69 : tiOK Try.prog 69 ⟨.slice 3, 1, 24, [.sl 1 true []], [], false⟩ = true := by kernel_rfl
theorem tiok_86 : tiOK Try.prog 86 ⟨.slice 24, 1, 24, [.sl 4 true []], [], false⟩ = true := by kernel_rfl
theorem tiok_89 : tiOK Try.prog 89 ⟨.slice 2, 1, 24, [.sl 1 true []], [], false⟩ = true := by kernel_rfl
theorem tiok_94 : tiOK Try.prog 94 ⟨.slice 9, 1, 24, [.sl 1 true []], [], false⟩ = true := by kernel_rfl
theorem tiok_96 : tiOK Try.prog 96 ⟨.struct, 7, 88, [.sl 1 true [], .sl 1 true [], .int .i64 0, .int .i64 0, .int .i64 0, .int .i64 0, .int .i64 0], [(0, 1, false), (1, 1, false), (2, 5, true)], false⟩ = true := by kernel_rfl
theorem tiok_102 : tiOK Try.prog 102 ⟨.struct, 2, 24, [.str ⟨#[]⟩, .int .i64 0], [(0, 1, false), (1, 1, false)], true⟩ = true := by kernel_rfl
theorem tiok_154 : tiOK Try.prog 154 ⟨.int .u64, 1, 8, [.int .u64 0], [], false⟩ = true := by kernel_rfl
theorem te_ok : TEok Try.prog te := by
  intro t i h
  unfold te at h
  split at h
  · cases h; exact tiok_2
  · cases h; exact tiok_3
  · cases h; exact tiok_4
  · cases h; exact tiok_5
  · cases h; exact tiok_9
  · cases h; exact tiok_22
  · cases h; exact tiok_24
  · cases h; exact tiok_26
  · cases h; exact tiok_28
  · cases h; exact tiok_29
  · cases h; exact tiok_31
  · cases h; exact tiok_32
  · cases h; exact tiok_35
  · cases h; exact tiok_37
  · cases h; exact tiok_50
  · cases h; exact tiok_66
  · cases h; exact tiok_67
  · cases h; exact tiok_68
  · cases h; exact tiok_69
  · cases h; exact tiok_86
  · cases h; exact tiok_89
  · cases h; exact tiok_94
  · cases h; exact tiok_96
  · cases h; exact tiok_102
  · cases h; exact tiok_154
  · cases h
theorem mixed : Try.prog.follows .mixedOrders = true := by kernel_rfl
end Go.Proofs.Ytdojencjbmahpaa
end
/-
  LIBRARY FUNCTIONS of the seat: clones, slices.Insert, slices.Delete, and the model's own entries.
-/
section
namespace Go.Proofs.Ytdojencjbmahpaa
open Go.Rf
set_option maxRecDepth 100000
theorem v93 (fr : Bool) (es : List (List AV)) (H : List Ent) (Φ : AV → List Ent → Prop) : wFun te (fun _ => none) Try.f93 [.sl 8 fr es] H Φ =
  (∀ b : Bool, (b = true → es = []) → ifB b (Φ (.sl 8 true []) H) (((fits 8 8 es = true ∧ fits 8 8 [] = true) ∧ (([] : List (List AV)) = [] ∨ es ≠ []) ∧ room (0 + es.length) 104) ∧ Φ (.own H.length 1 (0 + es.length)) (setH H H.length (.arr true 1 8 none ([] ++ es))))) := by kernel_rfl
theorem clone_93 : SpecSound Try.prog 93 (XS.spec (.gen (xClone 8 104))) := clone_sound te_ok mixed (f := 93) (fn := Try.f93) ⟨Try.func93, by kernel_rfl, by kernel_rfl⟩ (by decide) v93
theorem v95 (fr : Bool) (es : List (List AV)) (H : List Ent) (Φ : AV → List Ent → Prop) : wFun te (fun _ => none) Try.f95 [.sl 2 fr es] H Φ =
  (∀ b : Bool, (b = true → es = []) → ifB b (Φ (.sl 2 true []) H) (((fits 2 2 es = true ∧ fits 2 2 [] = true) ∧ (([] : List (List AV)) = [] ∨ es ≠ []) ∧ room (0 + es.length) 24) ∧ Φ (.own H.length 1 (0 + es.length)) (setH H H.length (.arr true 1 2 none ([] ++ es))))) := by kernel_rfl
theorem clone_95 : SpecSound Try.prog 95 (XS.spec (.gen (xClone 2 24))) := clone_sound te_ok mixed (f := 95) (fn := Try.f95) ⟨Try.func95, by kernel_rfl, by kernel_rfl⟩ (by decide) v95
theorem v117 (fr : Bool) (es : List (List AV)) (H : List Ent) (Φ : AV → List Ent → Prop) : wFun te (fun _ => none) Try.f117 [.sl 2 fr es] H Φ =
  (∀ b : Bool, (b = true → es = []) → ifB b (Φ (.sl 2 true []) H) (((fits 2 2 es = true ∧ fits 2 2 [] = true) ∧ (([] : List (List AV)) = [] ∨ es ≠ []) ∧ room (0 + es.length) 32) ∧ Φ (.own H.length 1 (0 + es.length)) (setH H H.length (.arr true 1 2 none ([] ++ es))))) := by kernel_rfl
theorem clone_117 : SpecSound Try.prog 117 (XS.spec (.gen (xClone 2 32))) := clone_sound te_ok mixed (f := 117) (fn := Try.f117) ⟨Try.func117, by kernel_rfl, by kernel_rfl⟩ (by decide) v117
theorem v118 (fr : Bool) (es : List (List AV)) (H : List Ent) (Φ : AV → List Ent → Prop) : wFun te (fun _ => none) Try.f118 [.sl 1 fr es] H Φ =
  (∀ b : Bool, (b = true → es = []) → ifB b (Φ (.sl 1 true []) H) (((fits 1 1 es = true ∧ fits 1 1 [] = true) ∧ (([] : List (List AV)) = [] ∨ es ≠ []) ∧ room (0 + es.length) 1) ∧ Φ (.own H.length 1 (0 + es.length)) (setH H H.length (.arr true 1 1 none ([] ++ es))))) := by kernel_rfl
theorem clone_118 : SpecSound Try.prog 118 (XS.spec (.gen (xClone 1 1))) := clone_sound te_ok mixed (f := 118) (fn := Try.f118) ⟨Try.func118, by kernel_rfl, by kernel_rfl⟩ (by decide) v118
theorem v69 (fr : Bool) (es : List (List AV)) (H : List Ent) (Φ : AV → List Ent → Prop) : wFun te (fun _ => none) Try.f69 [.sl 1 fr es] H Φ =
  (∀ b : Bool, (b = true → es = []) → ifB b (Φ (.sl 1 true []) H) (((fits 1 1 es = true ∧ fits 1 1 [] = true) ∧ (([] : List (List AV)) = [] ∨ es ≠ []) ∧ room (0 + es.length) 1) ∧ Φ (.own H.length 1 (0 + es.length)) (setH H H.length (.arr true 1 1 none ([] ++ es))))) := by kernel_rfl
theorem clone_69 : SpecSound Try.prog 69 (XS.spec (.gen (xClone 1 1))) := clone_sound te_ok mixed (f := 69) (fn := Try.f69) ⟨Try.func69, by kernel_rfl, by kernel_rfl⟩ (by decide) v69
theorem ov_96 : GSound Try.prog 96 gOv := overlaps_sound (fn := Try.f96) (tS := 22) (tR := 4) (e := 37) (size := 8) (by kernel_rfl) (by kernel_rfl) (by kernel_rfl) (by kernel_rfl) (by kernel_rfl) (by kernel_rfl) (fun w => by kernel_rfl)
theorem v59 (v : Nat) (i : Int) (z : Nat) (fr : Bool) (es vs : List (List AV)) (Φ : AV → List Ent → Prop) : wFun te (ovEnv 96) Try.f59 [.own 0 v es.length, .int .i64 i, .sl z fr vs] [.arr true v 8 none es] Φ = insF te 22 37 8 104 v i z fr es vs Φ := by kernel_rfl
theorem insert_59 : SpecSound Try.prog 59 (XS.spec (.gen (xLend (xIns 8 104) 8))) := insert_sound te_ok mixed (f := 59) (fn := Try.f59) ⟨Try.func59, by kernel_rfl, by kernel_rfl⟩ ov_96 (by decide) (by decide) v59
theorem ov_99 : GSound Try.prog 99 gOv := overlaps_sound (fn := Try.f99) (tS := 35) (tR := 4) (e := 102) (size := 2) (by kernel_rfl) (by kernel_rfl) (by kernel_rfl) (by kernel_rfl) (by kernel_rfl) (by kernel_rfl) (fun w => by kernel_rfl)
theorem v61 (v : Nat) (i : Int) (z : Nat) (fr : Bool) (es vs : List (List AV)) (Φ : AV → List Ent → Prop) : wFun te (ovEnv 99) Try.f61 [.own 0 v es.length, .int .i64 i, .sl z fr vs] [.arr true v 2 none es] Φ = insF te 35 102 2 24 v i z fr es vs Φ := by kernel_rfl
theorem insert_61 : SpecSound Try.prog 61 (XS.spec (.gen (xLend (xIns 2 24) 2))) := insert_sound te_ok mixed (f := 61) (fn := Try.f61) ⟨Try.func61, by kernel_rfl, by kernel_rfl⟩ ov_99 (by decide) (by decide) v61
theorem v98 (v : Nat) (i j : Int) (es : List (List AV)) (Φ : AV → List Ent → Prop) : wFun te (fun _ => none) Try.f98 [.own 0 v es.length, .int .i64 i, .int .i64 j] [.arr true v 2 none es] Φ = delF te 35 102 2 24 v i j es Φ := by kernel_rfl
theorem delete_98 : SpecSound Try.prog 98 (XS.spec (.gen (xLend xDel 2))) := delete_sound te_ok mixed (f := 98) (fn := Try.f98) ⟨Try.func98, by kernel_rfl, by kernel_rfl⟩ v98
end Go.Proofs.Ytdojencjbmahpaa
end
/-
  What the texts of the first seat begin with.
-/
section
namespace Go.Proofs.Ytdojencjbmahpaa
open Go.Rf
def nGE' : GE := fun _ => none
theorem nGE'_sound : Sound Try.prog nGE' := by intro f sp h; cases h
end Go.Proofs.Ytdojencjbmahpaa
end
/-
  Names in a directory: where a name is, or would be: the contracts of the search.
-/
section
namespace Go.Proofs.Ytdojencjbmahpaa
open Go.Rf
set_option maxRecDepth 100000
set_option linter.unusedVariables false
set_option linter.unusedSimpArgs false
theorem isFun_115 : IsFun Try.prog 115 Try.f115 := ⟨Try.func115, by kernel_rfl, by kernel_rfl⟩
theorem isFun_89 : IsFun Try.prog 89 Try.f89 := ⟨Try.func89, by kernel_rfl, by kernel_rfl⟩
theorem isFun_88 : IsFun Try.prog 88 Try.f88 := ⟨Try.func88, by kernel_rfl, by kernel_rfl⟩
theorem isFun_87 : IsFun Try.prog 87 Try.f87 := ⟨Try.func87, by kernel_rfl, by kernel_rfl⟩
theorem isFun_55 : IsFun Try.prog 55 Try.f55 := ⟨Try.func55, by kernel_rfl, by kernel_rfl⟩
theorem isFun_30 : IsFun Try.prog 30 Try.f30 := ⟨Try.func30, by kernel_rfl, by kernel_rfl⟩
def ltS (a b : ByteArray) : Bool := Op.bytesLess a.toList b.toList
def cmpS (a b : ByteArray) : Int := if ltS a b = true then -1 else if (!(ltS a b || a.toList == b.toList)) = true then 1 else 0
theorem less_trans : ∀ {x y z : List UInt8}, Op.bytesLess x y = true → Op.bytesLess y z = true → Op.bytesLess x z = true
  | x, [], z, h, _ => by cases x <;> simp [Op.bytesLess] at h
  | x, y :: ys, [], _, h => by simp [Op.bytesLess] at h
  | [], y :: ys, z :: zs, _, _ => rfl
  | x :: xs, y :: ys, z :: zs, h1, h2 => by
    simp only [Op.bytesLess, Bool.or_eq_true, Bool.and_eq_true, decide_eq_true_eq, beq_iff_eq] at h1 h2 ⊢
    rcases h1 with h1 | ⟨rfl, h1⟩ <;> rcases h2 with h2 | ⟨rfl, h2⟩
    · exact .inl (UInt8.lt_trans h1 h2)
    · exact .inl h1
    · exact .inl h2
    · exact .inr ⟨rfl, less_trans h1 h2⟩
theorem ltS_trans {a b c : ByteArray} (h1 : ltS a b = true) (h2 : ltS b c = true) : ltS a c = true := less_trans h1 h2
theorem less_irrefl : ∀ x : List UInt8, Op.bytesLess x x = false
  | [] => rfl
  | x :: xs => by simp [Op.bytesLess, less_irrefl xs]
def txN : List AV → ByteArray
  | .str s :: _ => s
  | _ => ⟨#[]⟩
def inN : List AV → Int
  | [_, .int _ n] => n
  | _ => 0
/-- The names of a directory, rising. -/
def IsNames (es : List (List AV)) : Prop := (∀ e ∈ es, ∃ a n, e = [.str a, .int .i64 n]) ∧ es.Pairwise (fun e f => ltS (txN e) (txN f) = true) ∧ es.length ≤ 1000000000
def posK (es : List (List AV)) (s : ByteArray) : Nat := (es.takeWhile fun e => ltS (txN e) s).length
def posN (es : List (List AV)) (s : ByteArray) : Int := (posK es s : Int)
def fndN (es : List (List AV)) (s : ByteArray) : Bool := match es[posK es s]? with
  | some e => (txN e).toList == s.toList
  | none => false
def inoN (es : List (List AV)) (s : ByteArray) : Int := if fndN es s = true then inN (es.getD (posK es s) []) else 0
theorem while_len {α : Type} {p : α → Bool} : ∀ {l : List α} {i : Nat}, i ≤ l.length → (∀ k (h : k < l.length), k < i → p l[k] = true) → (∀ h : i < l.length, p l[i] = false) → (l.takeWhile p).length = i
  | [], i, h, _, _ => by simp at h; simp [h]
  | a :: l, 0, _, _, h => by
    have := h (by simp)
    simp at this
    simp [this]
  | a :: l, i + 1, hi, h1, h2 => by
    have h0 := h1 0 (by simp) (by omega)
    simp at h0
    rw [List.takeWhile_cons, if_pos h0, List.length_cons]
    rw [while_len (i := i) (by simpa using hi) (fun k hk hki => h1 (k + 1) (Nat.succ_lt_succ hk) (by omega)) (fun hh => h2 (Nat.succ_lt_succ hh))]
theorem names_at {es : List (List AV)} (h : IsNames es) {i : Nat} (hi : i < es.length) : ∃ a n, es[i] = [.str a, .int .i64 n] ∧ cellAt es i 0 = .str a ∧ cellAt es i 1 = .int .i64 n ∧ txN es[i] = a ∧ inN es[i] = n := by
  obtain ⟨a, n, he⟩ := h.1 es[i] (List.getElem_mem hi)
  have hg : es[i]? = some [.str a, .int .i64 n] := by rw [List.getElem?_eq_getElem hi, he]
  refine ⟨a, n, he, ?_, ?_, by rw [he]; rfl, by rw [he]; rfl⟩ <;> simp [cellAt, List.getD_eq_getElem?_getD, hg]
theorem names_mono {es : List (List AV)} (h : IsNames es) {s : ByteArray} {a b : Nat} (hab : a ≤ b) (hb : b < es.length) (hs : ltS (txN es[b]) s = true) : ltS (txN (es[a]'(by omega))) s = true := by
  rcases Nat.lt_or_ge a b with hlt | hge
  · exact ltS_trans (List.pairwise_iff_getElem.1 h.2.1 a b (by omega) hb hlt) hs
  · have : a = b := by omega
    subst this
    exact hs
theorem mid_eq (i j : Nat) (h : i + j ≤ 4000000000) : IntKind.i64.wrap (Int.fdiv (IntKind.u64.wrap (IntKind.i64.wrap ((i : Int) + (j : Int)))) (2 ^ (min (1 : Int).toNat IntKind.u64.bits))) = (((i + j) / 2 : Nat) : Int) := by
  have e1 : IntKind.i64.wrap ((i : Int) + (j : Int)) = ((i + j : Nat) : Int) := by rw [IntWalk.i64_in _ (by omega)]; omega
  have e2 : IntKind.u64.wrap ((i + j : Nat) : Int) = ((i + j : Nat) : Int) := by
    show ((i + j : Nat) : Int) % 2 ^ 64 = _
    omega
  have e3 : Int.fdiv ((i + j : Nat) : Int) (2 ^ (min (1 : Int).toNat IntKind.u64.bits)) = (((i + j) / 2 : Nat) : Int) := by
    show Int.fdiv ((i + j : Nat) : Int) ((2 : Nat) : Int) = _
    rw [Int.fdiv_eq_ediv_of_nonneg _ (by omega)]
    omega
  rw [e1, e2, e3, IntWalk.i64_in _ (by omega)]
theorem v115 (a : ByteArray) (Φ : AV → List Ent → Prop) : wFunS te nGE' Try.f115 [(.str a)] [] Φ = (Φ (.bool (!(a.toList == a.toList))) []) := by kernel_rfl
def C1S : List AV → Prop
  | [.str _] => True
  | _ => False
def CSS : List AV → Prop
  | [.str _, .str _] => True
  | _ => False
def g2S' : List AV → AV
  | [.str a, .str b] => .int .i64 (cmpS a b)
  | _ => .junk
def CCmp : List AV → Prop
  | [.agg [.str _, .int .i64 _], .str _] => True
  | _ => False
def gCmp : List AV → AV
  | [.agg [.str a, _], .str b] => .int .i64 (cmpS a b)
  | _ => .junk
theorem fn115 : SpecSound Try.prog 115 (.fn C1S (fun _ => .bool false)) := dat_soundS te_ok nGE'_sound mixed isFun_115 (by
  rintro xs Φ ⟨hC, h⟩
  unfold C1S at hC
  split at hC
  · rename_i a
    rw [v115, show (a.toList == a.toList) = true from beq_self_eq_true _]
    exact h
  · cases hC)
def GQ1 : GE := fun f => match f with
  | 115 => some (.fn C1S (fun _ => .bool false))
  | _ => none
theorem GQ1_sound : Sound Try.prog GQ1 := by
  intro f sp h
  unfold GQ1 at h
  split at h
  · cases h; exact fn115
  · cases h
theorem v89 (a b : ByteArray) (Φ : AV → List Ent → Prop) : wFunS te GQ1 Try.f89 [(.str a), (.str b)] [] Φ = (C1S [(.str a)] ∧ (C1S [(.str b)] ∧ (ifB (Op.bytesLess a.toList b.toList) (Φ (.int .i64 (-1)) []) (ifB (!(Op.bytesLess a.toList b.toList || a.toList == b.toList)) (Φ (.int .i64 1) []) (Φ (.int .i64 0) []))))) := by kernel_rfl
theorem fn89 : SpecSound Try.prog 89 (.fn CSS g2S') := dat_soundS te_ok GQ1_sound mixed isFun_89 (by
  rintro xs Φ ⟨hC, h⟩
  unfold CSS at hC
  split at hC
  · rename_i a b
    have h' : Φ (.int .i64 (cmpS a b)) .none := h
    rw [v89]
    refine ⟨trivial, trivial, ?_⟩
    unfold cmpS ltS at h'
    refine ifB_both (fun h1 => ?_) (fun h1 => ifB_both (fun h2 => ?_) (fun h2 => ?_))
    · rw [h1] at h'; exact h'
    · rw [h1] at h2 h'; rw [if_neg (by decide), if_pos h2] at h'; exact h'
    · rw [h1] at h2 h'; rw [if_neg (by decide), if_neg (by rw [h2]; decide)] at h'; exact h'
  · cases hC)
def GQ2 : GE := fun f => match f with
  | 89 => some (.fn CSS g2S')
  | _ => none
theorem GQ2_sound : Sound Try.prog GQ2 := by
  intro f sp h
  unfold GQ2 at h
  split at h
  · cases h; exact fn89
  · cases h
theorem v88 (a b : ByteArray) (n : Int) (Φ : AV → List Ent → Prop) : wFunS te GQ2 Try.f88 [(.agg [(.str a), (.int .i64 n)]), (.str b)] [] Φ = (CSS [(.str a), (.str b)] ∧ (Φ (.int .i64 (cmpS a b)) [(.var [(.str a), (.int .i64 n)])])) := by kernel_rfl
theorem fn88 : SpecSound Try.prog 88 (.fn CCmp gCmp) := dat_soundS te_ok GQ2_sound mixed isFun_88 (by
  rintro xs Φ ⟨hC, h⟩
  unfold CCmp at hC
  split at hC
  · rw [v88]; exact ⟨trivial, h⟩
  · cases hC)
def GQ3 : GE := fun f => match f with
  | 88 => some (.fn CCmp gCmp)
  | _ => none
theorem GQ3_sound : Sound Try.prog GQ3 := by
  intro f sp h
  unfold GQ3 at h
  split at h
  · cases h; exact fn88
  · cases h
theorem v87 (fr : Bool) (es : List (List AV)) (s : ByteArray) (Φ : AV → List Ent → Prop) : wFunS te GQ3 Try.f87 [(.sl 2 fr es), (.str s), (.fn 88)] [] Φ = (wLoopS 0 (wCodeS te GQ3 0 (bodyAt Try.f87 [false, false, false, true, true, true])) ⟨[(.sl 2 fr es), (.str s), (.fn 88), .junk, .junk, .junk, (.int .i64 0), (.bool false), (.int .i64 (es.length : Int)), (.int .i64 0), (.int .i64 (es.length : Int)), .junk, (.sl 2 fr es), (.int .i64 (es.length : Int)), (.int .i64 (es.length : Int)), .junk, .junk, .junk, .junk, .junk, .junk, .junk, .junk, .junk, .junk, .junk, .junk, .junk, .junk, .junk, .junk, .junk, .junk, .junk, .junk, .junk, .junk, .junk, .junk, .junk, .junk, .junk, .junk, .junk, .junk, .junk, .junk, .junk, .junk], []⟩ (blkQ 0 (seqQ (wCodeS te GQ3 0 (bodyAt Try.f87 [false, false, false, false])) (endQ te Try.f87 Φ)))) := by kernel_rfl
def t87 (fr : Bool) (es : List (List AV)) (s : ByteArray) (i j : Int) : St := ⟨[(.sl 2 fr es), (.str s), (.fn 88), .junk, .junk, .junk, .junk, .junk, (.int .i64 (es.length : Int)), (.int .i64 i), (.int .i64 j), .junk, .junk, .junk, .junk, .junk, .junk, .junk, .junk, .junk, .junk, .junk, .junk, .junk, .junk, .junk, .junk, .junk, .junk, .junk, .junk, .junk, .junk, .junk, .junk, .junk, .junk, .junk, .junk, .junk, .junk, .junk, .junk, .junk, .junk, .junk, .junk, .junk, .junk], []⟩
def k87 : List Bool := [true, true, true, false, false, false, false, false, true, true, true, false, false, false, false, false, false, false, false, false, false, false, false, false, false, false, false, false, false, false, false, false, false, false, false, false, false, false, false, false, false, false, false, false, false, false, false, false, false]
theorem b87 (fr : Bool) (es : List (List AV)) (s : ByteArray) (i j : Int) (Q : KontX) : wCodeS te GQ3 0 (bodyAt Try.f87 [false, false, false, true, true, true]) (t87 fr es s i j) Q = (ifB (!leI j i) ((0 ≤ (1 : Int)) ∧ ((0 ≤ (IntKind.i64.wrap (Int.fdiv (IntKind.u64.wrap (IntKind.i64.wrap (i + j))) (2 ^ (min (1 : Int).toNat IntKind.u64.bits)))) ∧ (IntKind.i64.wrap (Int.fdiv (IntKind.u64.wrap (IntKind.i64.wrap (i + j))) (2 ^ (min (1 : Int).toNat IntKind.u64.bits)))) < (es.length : Int)) ∧ (∃ s1, cellAt es (IntKind.i64.wrap (Int.fdiv (IntKind.u64.wrap (IntKind.i64.wrap (i + j))) (2 ^ (min (1 : Int).toNat IntKind.u64.bits)))).toNat 0 = (.str s1) ∧ ∃ n2, cellAt es (IntKind.i64.wrap (Int.fdiv (IntKind.u64.wrap (IntKind.i64.wrap (i + j))) (2 ^ (min (1 : Int).toNat IntKind.u64.bits)))).toNat 1 = (.int .i64 n2) ∧ (CCmp [(.agg [(.str s1), (.int .i64 n2)]), (.str s)] ∧ (ifB (!leI 0 (cmpS s1 s)) (Q .normal ⟨[(.sl 2 fr es), (.str s), (.fn 88), .junk, .junk, .junk, .junk, .junk, (.int .i64 (es.length : Int)), (.int .i64 (IntKind.i64.wrap ((IntKind.i64.wrap (Int.fdiv (IntKind.u64.wrap (IntKind.i64.wrap (i + j))) (2 ^ (min (1 : Int).toNat IntKind.u64.bits)))) + 1))), (.int .i64 j), (.int .i64 (IntKind.i64.wrap (Int.fdiv (IntKind.u64.wrap (IntKind.i64.wrap (i + j))) (2 ^ (min (1 : Int).toNat IntKind.u64.bits))))), .junk, .junk, .junk, (.int .i64 i), (.int .i64 j), (.bool (!leI j i)), (.int .i64 i), (.int .i64 j), (.int .i64 (IntKind.i64.wrap (i + j))), (.int .u64 (IntKind.u64.wrap (IntKind.i64.wrap (i + j)))), (.int .u64 (Int.fdiv (IntKind.u64.wrap (IntKind.i64.wrap (i + j))) (2 ^ (min (1 : Int).toNat IntKind.u64.bits)))), (.int .i64 (IntKind.i64.wrap (Int.fdiv (IntKind.u64.wrap (IntKind.i64.wrap (i + j))) (2 ^ (min (1 : Int).toNat IntKind.u64.bits))))), (.fn 88), (.sl 2 fr es), (.int .i64 (IntKind.i64.wrap (Int.fdiv (IntKind.u64.wrap (IntKind.i64.wrap (i + j))) (2 ^ (min (1 : Int).toNat IntKind.u64.bits))))), (.rptr 2 es (IntKind.i64.wrap (Int.fdiv (IntKind.u64.wrap (IntKind.i64.wrap (i + j))) (2 ^ (min (1 : Int).toNat IntKind.u64.bits)))).toNat 0), (.agg [(.str s1), (.int .i64 n2)]), (.str s), (.int .i64 (cmpS s1 s)), (.bool (!leI 0 (cmpS s1 s))), (.int .i64 (IntKind.i64.wrap (Int.fdiv (IntKind.u64.wrap (IntKind.i64.wrap (i + j))) (2 ^ (min (1 : Int).toNat IntKind.u64.bits))))), (.int .i64 (IntKind.i64.wrap ((IntKind.i64.wrap (Int.fdiv (IntKind.u64.wrap (IntKind.i64.wrap (i + j))) (2 ^ (min (1 : Int).toNat IntKind.u64.bits)))) + 1))), .junk, .junk, .junk, .junk, .junk, .junk, .junk, .junk, .junk, .junk, .junk, .junk, .junk, .junk, .junk], []⟩) (Q .normal ⟨[(.sl 2 fr es), (.str s), (.fn 88), .junk, .junk, .junk, .junk, .junk, (.int .i64 (es.length : Int)), (.int .i64 i), (.int .i64 (IntKind.i64.wrap (Int.fdiv (IntKind.u64.wrap (IntKind.i64.wrap (i + j))) (2 ^ (min (1 : Int).toNat IntKind.u64.bits))))), (.int .i64 (IntKind.i64.wrap (Int.fdiv (IntKind.u64.wrap (IntKind.i64.wrap (i + j))) (2 ^ (min (1 : Int).toNat IntKind.u64.bits))))), .junk, .junk, .junk, (.int .i64 i), (.int .i64 j), (.bool (!leI j i)), (.int .i64 i), (.int .i64 j), (.int .i64 (IntKind.i64.wrap (i + j))), (.int .u64 (IntKind.u64.wrap (IntKind.i64.wrap (i + j)))), (.int .u64 (Int.fdiv (IntKind.u64.wrap (IntKind.i64.wrap (i + j))) (2 ^ (min (1 : Int).toNat IntKind.u64.bits)))), (.int .i64 (IntKind.i64.wrap (Int.fdiv (IntKind.u64.wrap (IntKind.i64.wrap (i + j))) (2 ^ (min (1 : Int).toNat IntKind.u64.bits))))), (.fn 88), (.sl 2 fr es), (.int .i64 (IntKind.i64.wrap (Int.fdiv (IntKind.u64.wrap (IntKind.i64.wrap (i + j))) (2 ^ (min (1 : Int).toNat IntKind.u64.bits))))), (.rptr 2 es (IntKind.i64.wrap (Int.fdiv (IntKind.u64.wrap (IntKind.i64.wrap (i + j))) (2 ^ (min (1 : Int).toNat IntKind.u64.bits)))).toNat 0), (.agg [(.str s1), (.int .i64 n2)]), (.str s), (.int .i64 (cmpS s1 s)), (.bool (!leI 0 (cmpS s1 s))), .junk, .junk, (.int .i64 (IntKind.i64.wrap (Int.fdiv (IntKind.u64.wrap (IntKind.i64.wrap (i + j))) (2 ^ (min (1 : Int).toNat IntKind.u64.bits))))), .junk, .junk, .junk, .junk, .junk, .junk, .junk, .junk, .junk, .junk, .junk, .junk, .junk, .junk], []⟩)))))) (Q (.exit 0) ⟨[(.sl 2 fr es), (.str s), (.fn 88), .junk, .junk, .junk, .junk, .junk, (.int .i64 (es.length : Int)), (.int .i64 i), (.int .i64 j), .junk, .junk, .junk, .junk, (.int .i64 i), (.int .i64 j), (.bool (!leI j i)), .junk, .junk, .junk, .junk, .junk, .junk, .junk, .junk, .junk, .junk, .junk, .junk, .junk, .junk, .junk, .junk, .junk, .junk, .junk, .junk, .junk, .junk, .junk, .junk, .junk, .junk, .junk, .junk, .junk, .junk, .junk], []⟩)) := by kernel_rfl
theorem e87 (fr : Bool) (es : List (List AV)) (s : ByteArray) (i j : Int) {x3 x4 x5 x6 x7 x11 x12 x13 x14 x15 x16 x17 x18 x19 x20 x21 x22 x23 x24 x25 x26 x27 x28 x29 x30 x31 x32 x33 x34 x35 x36 x37 x38 x39 x40 x41 x42 x43 x44 x45 x46 x47 x48 : AV} (Φ : AV → List Ent → Prop) : wCodeS te GQ3 0 (bodyAt Try.f87 [false, false, false, false]) ⟨[(.sl 2 fr es), (.str s), (.fn 88), x3, x4, x5, x6, x7, (.int .i64 (es.length : Int)), (.int .i64 i), (.int .i64 j), x11, x12, x13, x14, x15, x16, x17, x18, x19, x20, x21, x22, x23, x24, x25, x26, x27, x28, x29, x30, x31, x32, x33, x34, x35, x36, x37, x38, x39, x40, x41, x42, x43, x44, x45, x46, x47, x48], []⟩ (endQ te Try.f87 Φ) = (ifB (!leI (es.length : Int) i) ((0 ≤ i ∧ i < (es.length : Int)) ∧ (∃ s3, cellAt es i.toNat 0 = (.str s3) ∧ ∃ n4, cellAt es i.toNat 1 = (.int .i64 n4) ∧ (CCmp [(.agg [(.str s3), (.int .i64 n4)]), (.str s)] ∧ (Φ (.tup [(.int .i64 i), (.bool ((cmpS s3 s) == 0))]) [])))) (Φ (.tup [(.int .i64 i), (.bool false)]) [])) := by kernel_rfl
def CBS : List AV → Prop
  | [.sl 2 _ es, .str _, .fn f] => IsNames es ∧ f = 88
  | _ => False
def gBS : List AV → AV
  | [.sl _ _ es, .str s, _] => .tup [.int .i64 (posN es s), .bool (fndN es s)]
  | _ => .junk
theorem cmp_lt (a s : ByteArray) : (!leI 0 (cmpS a s)) = ltS a s := by
  unfold cmpS
  split
  · rename_i h; rw [h]; rfl
  · rename_i h
    have h' : ltS a s = false := by simpa using h
    rw [h']
    split <;> rfl
theorem cmp_eq (a s : ByteArray) (h : ltS a s = false) : (cmpS a s == 0) = (a.toList == s.toList) := by
  unfold cmpS
  rw [if_neg (by rw [h]; decide), h, Bool.false_or]
  cases a.toList == s.toList <;> rfl
theorem s87 {fr : Bool} {es : List (List AV)} {s : ByteArray} (hn : IsNames es) (Φ : AV → Ent → Prop) (h : Φ (.tup [.int .i64 (posN es s), .bool (fndN es s)]) .none) : wFunS te GQ3 Try.f87 [.sl 2 fr es, .str s, .fn 88] [] (datFin Φ) := by
  have hl := hn.2.2
  rw [v87]
  refine ⟨fun n st => ∃ i j : Nat, j - i = n ∧ i ≤ j ∧ j ≤ es.length ∧ st = t87 fr es s i j ∧ (∀ k (hk : k < es.length), k < i → ltS (txN es[k]) s = true) ∧ (∀ k (hk : k < es.length), j ≤ k → ltS (txN es[k]) s = false),
    ⟨es.length, t87 fr es s (0 : Nat) es.length, ⟨0, es.length, by omega, by omega, Nat.le_refl _, rfl, fun k _ hk => by omega, fun k hk hk2 => by omega⟩, reT_to k87 0 rfl (by omega) rfl⟩, ?_⟩
  rintro n st ⟨i, j, hij, hle, hj, rfl, hlo, hhi⟩
  rw [b87]
  refine ifB_both (fun c1 => ?_) (fun c1 => ?_)
  · rw [not_leI] at c1
    have c1' := of_decide_eq_true c1
    have hm := mid_eq i j (by omega)
    rw [hm]
    have hmlt : (i + j) / 2 < es.length := by omega
    obtain ⟨a, m, hrow, h0, h1, htx, _⟩ := names_at hn hmlt
    refine ⟨by omega, by omega, a, by rw [Int.toNat_natCast]; exact h0, m, by rw [Int.toNat_natCast]; exact h1, trivial, ?_⟩
    rw [cmp_lt]
    refine ifB_both (fun c2 => ?_) (fun c2 => ?_)
    · have hw : IntKind.i64.wrap ((((i + j) / 2 : Nat) : Int) + 1) = (((i + j) / 2 + 1 : Nat) : Int) := by rw [IntWalk.i64_in _ (by omega)]; omega
      rw [hw]
      refine ⟨j - ((i + j) / 2 + 1), t87 fr es s (((i + j) / 2 + 1 : Nat) : Int) j, by omega, ⟨(i + j) / 2 + 1, j, rfl, by omega, hj, rfl, fun k hk hki => ?_, hhi⟩, reT_to k87 0 rfl (by omega) rfl⟩
      exact names_mono hn (a := k) (b := (i + j) / 2) (by omega) hmlt (by rw [htx]; exact c2)
    · refine ⟨(i + j) / 2 - i, t87 fr es s i (((i + j) / 2 : Nat) : Int), by omega, ⟨i, (i + j) / 2, rfl, by omega, by omega, rfl, hlo, fun k hk hki => ?_⟩, reT_to k87 0 rfl (by omega) rfl⟩
      rcases hb : ltS (txN es[k]) s with _ | _
      · rfl
      · exfalso
        have := names_mono hn (a := (i + j) / 2) (b := k) hki hk hb
        rw [htx, c2] at this
        cases this
  · rw [not_leI] at c1
    have c1' := of_decide_eq_false c1
    have hij' : i = j := by omega
    subst hij'
    have hpos : posK es s = i := while_len hj (fun k hk hki => hlo k hk hki) (fun hk => hhi i hk (Nat.le_refl _))
    have hposN : posN es s = (i : Int) := by unfold posN; rw [hpos]
    refine rs_exit ?_
    rw [e87]
    refine ifB_both (fun c2 => ?_) (fun c2 => ?_)
    · rw [not_leI] at c2
      have c2' := of_decide_eq_true c2
      have hilt : i < es.length := by omega
      obtain ⟨a, m, hrow, h0, h1, htx, _⟩ := names_at hn hilt
      refine ⟨by omega, a, by rw [Int.toNat_natCast]; exact h0, m, by rw [Int.toNat_natCast]; exact h1, trivial, ?_⟩
      have hlt : ltS a s = false := by rw [← htx]; exact hhi i hilt (Nat.le_refl _)
      rw [cmp_eq a s hlt]
      have hf : fndN es s = (a.toList == s.toList) := by
        unfold fndN
        rw [hpos, List.getElem?_eq_getElem hilt]
        show ((txN es[i]).toList == s.toList) = _
        rw [htx]
      rw [hposN, hf] at h
      exact h
    · rw [not_leI] at c2
      have c2' := of_decide_eq_false c2
      have hf : fndN es s = false := by
        unfold fndN
        rw [hpos, List.getElem?_eq_none (by omega)]
      rw [hposN, hf] at h
      exact h
theorem fn87 : SpecSound Try.prog 87 (.fn CBS gBS) := dat_soundS te_ok GQ3_sound mixed isFun_87 (by
  rintro xs Φ ⟨hC, h⟩
  unfold CBS at hC
  split at hC
  · obtain ⟨h1, rfl⟩ := hC
    exact s87 h1 Φ h
  · cases hC)
def GQ4 : GE := fun f => match f with
  | 87 => some (.fn CBS gBS)
  | _ => none
theorem GQ4_sound : Sound Try.prog GQ4 := by
  intro f sp h
  unfold GQ4 at h
  split at h
  · cases h; exact fn87
  · cases h
theorem v55 (a b c d e : Int) (f1 f2 : Bool) (bl : List (List AV)) (t : ByteArray) (es : List (List AV)) (s : ByteArray) (Φ : AV → List Ent → Prop) : wFunS te GQ4 Try.f55 [(.agg [(.int .i64 a), (.int .i64 b), (.int .i64 c), (.int .i64 d), (.int .i64 e), (.sl 2 f1 bl), (.str t), (.sl 2 f2 es)]), (.str s)] [] Φ = (CBS [(.sl 2 false es), (.str s), (.fn 88)] ∧ (Φ (.tup [(.int .i64 (posN es s)), (.bool (fndN es s))]) [(.var [(.int .i64 a), (.int .i64 b), (.int .i64 c), (.int .i64 d), (.int .i64 e), (.sl 2 f1 bl), (.str t), (.sl 2 f2 es)])])) := by kernel_rfl
def CPl : List AV → Prop
  | [.agg [.int .i64 _, .int .i64 _, .int .i64 _, .int .i64 _, .int .i64 _, .sl 2 _ _, .str _, .sl 2 _ es], .str _] => IsNames es
  | _ => False
def gPl : List AV → AV
  | [.agg [_, _, _, _, _, _, _, .sl _ _ es], .str s] => .tup [.int .i64 (posN es s), .bool (fndN es s)]
  | _ => .junk
def gNm : List AV → AV
  | [.agg [_, _, _, _, _, _, _, .sl _ _ es], .str s] => .tup [.int .i64 (inoN es s), .bool (fndN es s)]
  | _ => .junk
theorem fn55 : SpecSound Try.prog 55 (.fn CPl gPl) := dat_soundS te_ok GQ4_sound mixed isFun_55 (by
  rintro xs Φ ⟨hC, h⟩
  unfold CPl at hC
  split at hC
  · rw [v55]; exact ⟨⟨hC, rfl⟩, h⟩
  · cases hC)
def GQ5 : GE := fun f => match f with
  | 55 => some (.fn CPl gPl)
  | _ => none
theorem GQ5_sound : Sound Try.prog GQ5 := by
  intro f sp h
  unfold GQ5 at h
  split at h
  · cases h; exact fn55
  · cases h
theorem v30 (a b c d e : Int) (f1 f2 : Bool) (bl : List (List AV)) (t : ByteArray) (es : List (List AV)) (s : ByteArray) (Φ : AV → List Ent → Prop) : wFunS te GQ5 Try.f30 [(.agg [(.int .i64 a), (.int .i64 b), (.int .i64 c), (.int .i64 d), (.int .i64 e), (.sl 2 f1 bl), (.str t), (.sl 2 f2 es)]), (.str s)] [] Φ = (CPl [(.agg [(.int .i64 a), (.int .i64 b), (.int .i64 c), (.int .i64 d), (.int .i64 e), (.sl 2 false bl), (.str t), (.sl 2 false es)]), (.str s)] ∧ (ifB (!(fndN es s)) (Φ (.tup [(.int .i64 0), (.bool false)]) [(.var [(.int .i64 a), (.int .i64 b), (.int .i64 c), (.int .i64 d), (.int .i64 e), (.sl 2 f1 bl), (.str t), (.sl 2 f2 es)])]) ((0 ≤ (posN es s) ∧ (posN es s) < (es.length : Int)) ∧ (∃ n5, cellAt es (posN es s).toNat 1 = (.int .i64 n5) ∧ (Φ (.tup [(.int .i64 n5), (.bool true)]) [(.var [(.int .i64 a), (.int .i64 b), (.int .i64 c), (.int .i64 d), (.int .i64 e), (.sl 2 f1 bl), (.str t), (.sl 2 f2 es)])]))))) := by kernel_rfl
theorem fn30 : SpecSound Try.prog 30 (.fn CPl gNm) := dat_soundS te_ok GQ5_sound mixed isFun_30 (by
  rintro xs Φ ⟨hC, h⟩
  unfold CPl at hC
  split at hC
  · rename_i a b c d e f1 bl t f2 es s
    rw [v30]
    have h' : Φ (.tup [.int .i64 (inoN es s), .bool (fndN es s)]) .none := h
    refine ⟨hC, ifB_both (fun c1 => ?_) (fun c1 => ?_)⟩
    · have hf : fndN es s = false := by simpa using c1
      have hi : inoN es s = 0 := by unfold inoN; rw [if_neg (by rw [hf]; decide)]
      rw [hf, hi] at h'
      exact h'
    · have hf : fndN es s = true := by simpa using c1
      have hlt : posK es s < es.length := by
        rcases Nat.lt_or_ge (posK es s) es.length with hh | hh
        · exact hh
        · unfold fndN at hf
          rw [List.getElem?_eq_none hh] at hf
          cases hf
      obtain ⟨x, m, hrow, h0, h1, htx, hin⟩ := names_at hC hlt
      have hi : inoN es s = m := by
        unfold inoN
        rw [if_pos hf, List.getD_eq_getElem?_getD, List.getElem?_eq_getElem hlt]
        exact hin
      have hp : posN es s = (posK es s : Int) := rfl
      rw [hp]
      refine ⟨by omega, m, by rw [Int.toNat_natCast]; exact h1, ?_⟩
      rw [hf, hi] at h'
      exact h'
  · cases hC)
end Go.Proofs.Ytdojencjbmahpaa
end
/-
  Nodes on a disk: where a node is, or would be: the contracts of the search.
-/
section
namespace Go.Proofs.Ytdojencjbmahpaa
open Go.Rf
set_option maxRecDepth 100000
set_option linter.unusedVariables false
set_option linter.unusedSimpArgs false
theorem isFun_116 : IsFun Try.prog 116 Try.f116 := ⟨Try.func116, by kernel_rfl, by kernel_rfl⟩
theorem isFun_92 : IsFun Try.prog 92 Try.f92 := ⟨Try.func92, by kernel_rfl, by kernel_rfl⟩
theorem isFun_91 : IsFun Try.prog 91 Try.f91 := ⟨Try.func91, by kernel_rfl, by kernel_rfl⟩
theorem isFun_90 : IsFun Try.prog 90 Try.f90 := ⟨Try.func90, by kernel_rfl, by kernel_rfl⟩
theorem isFun_56 : IsFun Try.prog 56 Try.f56 := ⟨Try.func56, by kernel_rfl, by kernel_rfl⟩
def cmpI (a b : Int) : Int := if a < b then -1 else if b < a then 1 else 0
def inI : List AV → Int
  | .int _ n :: _ => n
  | _ => 0
/-- The blocks of a file. -/
def IsBlocks (es : List (List AV)) : Prop := (∀ e ∈ es, ∃ a d, e = [.int .i64 a, .sl 1 false d] ∧ d.length = 16 ∧ (∀ x ∈ d, isByte x) ∧ 0 ≤ a ∧ a ≤ 32768) ∧ es.Pairwise (fun e f => inI e < inI f) ∧ es.length ≤ 1000000000
/-- A node. -/
def IsNode (e : List AV) : Prop := ∃ (a b c d s : Int) (bl : List (List AV)) (t : ByteArray) (nm : List (List AV)), e = [.int .i64 a, .int .i64 b, .int .i64 c, .int .i64 d, .int .i64 s, .sl 2 false bl, .str t, .sl 2 false nm] ∧ IsBlocks bl ∧ IsNames nm
/-- The nodes of a disk, rising. -/
def IsNodes (es : List (List AV)) : Prop := (∀ e ∈ es, IsNode e) ∧ es.Pairwise (fun e f => inI e < inI f) ∧ es.length ≤ 1000000000
def posKI (es : List (List AV)) (s : Int) : Nat := (es.takeWhile fun e => decide (inI e < s)).length
def posI (es : List (List AV)) (s : Int) : Int := (posKI es s : Int)
def fndI (es : List (List AV)) (s : Int) : Bool := match es[posKI es s]? with
  | some e => inI e == s
  | none => false
theorem node_at {es : List (List AV)} (h : IsNodes es) {i : Nat} (hi : i < es.length) : ∃ (a b c d s : Int) (bl : List (List AV)) (t : ByteArray) (nm : List (List AV)), es[i] = [.int .i64 a, .int .i64 b, .int .i64 c, .int .i64 d, .int .i64 s, .sl 2 false bl, .str t, .sl 2 false nm] ∧
    (cellAt es i 0 = .int .i64 a ∧ cellAt es i 1 = .int .i64 b ∧ cellAt es i 2 = .int .i64 c ∧ cellAt es i 3 = .int .i64 d ∧ cellAt es i 4 = .int .i64 s ∧ cellAt es i 5 = .sl 2 false bl ∧ cellAt es i 6 = .str t ∧ cellAt es i 7 = .sl 2 false nm) ∧ inI es[i] = a ∧ IsBlocks bl ∧ IsNames nm := by
  obtain ⟨a, b, c, d, s, bl, t, nm, he, h1, h2⟩ := h.1 es[i] (List.getElem_mem hi)
  have hg : es[i]? = some [.int .i64 a, .int .i64 b, .int .i64 c, .int .i64 d, .int .i64 s, .sl 2 false bl, .str t, .sl 2 false nm] := by rw [List.getElem?_eq_getElem hi, he]
  refine ⟨a, b, c, d, s, bl, t, nm, he, ?_, by rw [he]; rfl, h1, h2⟩
  simp [cellAt, List.getD_eq_getElem?_getD, hg]
theorem nodes_mono {es : List (List AV)} (h : IsNodes es) {s : Int} {a b : Nat} (hab : a ≤ b) (hb : b < es.length) (hs : inI es[b] < s) : inI (es[a]'(by omega)) < s := by
  rcases Nat.lt_or_ge a b with hlt | hge
  · exact Int.lt_trans (List.pairwise_iff_getElem.1 h.2.1 a b (by omega) hb hlt) hs
  · have : a = b := by omega
    subst this
    exact hs
theorem v116 (a : Int) (Φ : AV → List Ent → Prop) : wFunS te nGE' Try.f116 [(.int .i64 a)] [] Φ = (Φ (.bool (a != a)) []) := by kernel_rfl
def C1I : List AV → Prop
  | [.int .i64 _] => True
  | _ => False
def CII : List AV → Prop
  | [.int .i64 _, .int .i64 _] => True
  | _ => False
def g2I : List AV → AV
  | [.int _ a, .int _ b] => .int .i64 (cmpI a b)
  | _ => .junk
def CCmN : List AV → Prop
  | [.agg [.int .i64 _, .int .i64 _, .int .i64 _, .int .i64 _, .int .i64 _, .sl 2 _ _, .str _, .sl 2 _ _], .int .i64 _] => True
  | _ => False
def gCmN : List AV → AV
  | [.agg (.int _ a :: _), .int _ b] => .int .i64 (cmpI a b)
  | _ => .junk
theorem fn116 : SpecSound Try.prog 116 (.fn C1I (fun _ => .bool false)) := dat_soundS te_ok nGE'_sound mixed isFun_116 (by
  rintro xs Φ ⟨hC, h⟩
  unfold C1I at hC
  split at hC
  · rename_i a
    rw [v116, show (a != a) = false from by simp]
    exact h
  · cases hC)
def GN1 : GE := fun f => match f with
  | 116 => some (.fn C1I (fun _ => .bool false))
  | _ => none
theorem GN1_sound : Sound Try.prog GN1 := by
  intro f sp h
  unfold GN1 at h
  split at h
  · cases h; exact fn116
  · cases h
theorem v92 (a b : Int) (Φ : AV → List Ent → Prop) : wFunS te GN1 Try.f92 [(.int .i64 a), (.int .i64 b)] [] Φ = (C1I [(.int .i64 a)] ∧ (C1I [(.int .i64 b)] ∧ (ifB (!leI b a) (Φ (.int .i64 (-1)) []) (ifB (!leI a b) (Φ (.int .i64 1) []) (Φ (.int .i64 0) []))))) := by kernel_rfl
theorem fn92 : SpecSound Try.prog 92 (.fn CII g2I) := dat_soundS te_ok GN1_sound mixed isFun_92 (by
  rintro xs Φ ⟨hC, h⟩
  unfold CII at hC
  split at hC
  · rename_i a b
    have h' : Φ (.int .i64 (cmpI a b)) .none := h
    rw [v92]
    refine ⟨trivial, trivial, ?_⟩
    unfold cmpI at h'
    refine ifB_both (fun h1 => ?_) (fun h1 => ifB_both (fun h2 => ?_) (fun h2 => ?_))
    · rw [not_leI] at h1; rw [if_pos (of_decide_eq_true h1)] at h'; exact h'
    · rw [not_leI] at h1 h2; rw [if_neg (of_decide_eq_false h1), if_pos (of_decide_eq_true h2)] at h'; exact h'
    · rw [not_leI] at h1 h2; rw [if_neg (of_decide_eq_false h1), if_neg (of_decide_eq_false h2)] at h'; exact h'
  · cases hC)
def GN2 : GE := fun f => match f with
  | 92 => some (.fn CII g2I)
  | _ => none
theorem GN2_sound : Sound Try.prog GN2 := by
  intro f sp h
  unfold GN2 at h
  split at h
  · cases h; exact fn92
  · cases h
theorem v91 (a b c d e : Int) (f1 f2 : Bool) (bl nm : List (List AV)) (t : ByteArray) (k : Int) (Φ : AV → List Ent → Prop) : wFunS te GN2 Try.f91 [(.agg [(.int .i64 a), (.int .i64 b), (.int .i64 c), (.int .i64 d), (.int .i64 e), (.sl 2 f1 bl), (.str t), (.sl 2 f2 nm)]), (.int .i64 k)] [] Φ = (CII [(.int .i64 a), (.int .i64 k)] ∧ (Φ (.int .i64 (cmpI a k)) [(.var [(.int .i64 a), (.int .i64 b), (.int .i64 c), (.int .i64 d), (.int .i64 e), (.sl 2 f1 bl), (.str t), (.sl 2 f2 nm)])])) := by kernel_rfl
theorem fn91 : SpecSound Try.prog 91 (.fn CCmN gCmN) := dat_soundS te_ok GN2_sound mixed isFun_91 (by
  rintro xs Φ ⟨hC, h⟩
  unfold CCmN at hC
  split at hC
  · rw [v91]; exact ⟨trivial, h⟩
  · cases hC)
def GN3 : GE := fun f => match f with
  | 91 => some (.fn CCmN gCmN)
  | _ => none
theorem GN3_sound : Sound Try.prog GN3 := by
  intro f sp h
  unfold GN3 at h
  split at h
  · cases h; exact fn91
  · cases h
theorem v90 (fr : Bool) (es : List (List AV)) (s : Int) (Φ : AV → List Ent → Prop) : wFunS te GN3 Try.f90 [(.sl 8 fr es), (.int .i64 s), (.fn 91)] [] Φ = (wLoopS 0 (wCodeS te GN3 0 (bodyAt Try.f90 [false, false, false, true, true, true])) ⟨[(.sl 8 fr es), (.int .i64 s), (.fn 91), .junk, .junk, .junk, (.int .i64 0), (.bool false), (.int .i64 (es.length : Int)), (.int .i64 0), (.int .i64 (es.length : Int)), .junk, (.sl 8 fr es), (.int .i64 (es.length : Int)), (.int .i64 (es.length : Int)), .junk, .junk, .junk, .junk, .junk, .junk, .junk, .junk, .junk, .junk, .junk, .junk, .junk, .junk, .junk, .junk, .junk, .junk, .junk, .junk, .junk, .junk, .junk, .junk, .junk, .junk, .junk, .junk, .junk, .junk, .junk, .junk, .junk, .junk], []⟩ (blkQ 0 (seqQ (wCodeS te GN3 0 (bodyAt Try.f90 [false, false, false, false])) (endQ te Try.f90 Φ)))) := by kernel_rfl
def t90 (fr : Bool) (es : List (List AV)) (s i j : Int) : St := ⟨[(.sl 8 fr es), (.int .i64 s), (.fn 91), .junk, .junk, .junk, .junk, .junk, (.int .i64 (es.length : Int)), (.int .i64 i), (.int .i64 j), .junk, .junk, .junk, .junk, .junk, .junk, .junk, .junk, .junk, .junk, .junk, .junk, .junk, .junk, .junk, .junk, .junk, .junk, .junk, .junk, .junk, .junk, .junk, .junk, .junk, .junk, .junk, .junk, .junk, .junk, .junk, .junk, .junk, .junk, .junk, .junk, .junk, .junk], []⟩
def k90 : List Bool := [true, true, true, false, false, false, false, false, true, true, true, false, false, false, false, false, false, false, false, false, false, false, false, false, false, false, false, false, false, false, false, false, false, false, false, false, false, false, false, false, false, false, false, false, false, false, false, false, false]
theorem b90 (fr : Bool) (es : List (List AV)) (s i j : Int) (Q : KontX) : wCodeS te GN3 0 (bodyAt Try.f90 [false, false, false, true, true, true]) (t90 fr es s i j) Q = (ifB (!leI j i) ((0 ≤ (1 : Int)) ∧ ((0 ≤ (IntKind.i64.wrap (Int.fdiv (IntKind.u64.wrap (IntKind.i64.wrap (i + j))) (2 ^ (min (1 : Int).toNat IntKind.u64.bits)))) ∧ (IntKind.i64.wrap (Int.fdiv (IntKind.u64.wrap (IntKind.i64.wrap (i + j))) (2 ^ (min (1 : Int).toNat IntKind.u64.bits)))) < (es.length : Int)) ∧ (∃ n1, cellAt es (IntKind.i64.wrap (Int.fdiv (IntKind.u64.wrap (IntKind.i64.wrap (i + j))) (2 ^ (min (1 : Int).toNat IntKind.u64.bits)))).toNat 0 = (.int .i64 n1) ∧ ∃ n2, cellAt es (IntKind.i64.wrap (Int.fdiv (IntKind.u64.wrap (IntKind.i64.wrap (i + j))) (2 ^ (min (1 : Int).toNat IntKind.u64.bits)))).toNat 1 = (.int .i64 n2) ∧ ∃ n3, cellAt es (IntKind.i64.wrap (Int.fdiv (IntKind.u64.wrap (IntKind.i64.wrap (i + j))) (2 ^ (min (1 : Int).toNat IntKind.u64.bits)))).toNat 2 = (.int .i64 n3) ∧ ∃ n4, cellAt es (IntKind.i64.wrap (Int.fdiv (IntKind.u64.wrap (IntKind.i64.wrap (i + j))) (2 ^ (min (1 : Int).toNat IntKind.u64.bits)))).toNat 3 = (.int .i64 n4) ∧ ∃ n5, cellAt es (IntKind.i64.wrap (Int.fdiv (IntKind.u64.wrap (IntKind.i64.wrap (i + j))) (2 ^ (min (1 : Int).toNat IntKind.u64.bits)))).toNat 4 = (.int .i64 n5) ∧ ∃ r6, cellAt es (IntKind.i64.wrap (Int.fdiv (IntKind.u64.wrap (IntKind.i64.wrap (i + j))) (2 ^ (min (1 : Int).toNat IntKind.u64.bits)))).toNat 5 = (.sl 2 false r6) ∧ ∃ s7, cellAt es (IntKind.i64.wrap (Int.fdiv (IntKind.u64.wrap (IntKind.i64.wrap (i + j))) (2 ^ (min (1 : Int).toNat IntKind.u64.bits)))).toNat 6 = (.str s7) ∧ ∃ r8, cellAt es (IntKind.i64.wrap (Int.fdiv (IntKind.u64.wrap (IntKind.i64.wrap (i + j))) (2 ^ (min (1 : Int).toNat IntKind.u64.bits)))).toNat 7 = (.sl 2 false r8) ∧ (CCmN [(.agg [(.int .i64 n1), (.int .i64 n2), (.int .i64 n3), (.int .i64 n4), (.int .i64 n5), (.sl 2 false r6), (.str s7), (.sl 2 false r8)]), (.int .i64 s)] ∧ (ifB (!leI 0 (cmpI n1 s)) (Q .normal ⟨[(.sl 8 fr es), (.int .i64 s), (.fn 91), .junk, .junk, .junk, .junk, .junk, (.int .i64 (es.length : Int)), (.int .i64 (IntKind.i64.wrap ((IntKind.i64.wrap (Int.fdiv (IntKind.u64.wrap (IntKind.i64.wrap (i + j))) (2 ^ (min (1 : Int).toNat IntKind.u64.bits)))) + 1))), (.int .i64 j), (.int .i64 (IntKind.i64.wrap (Int.fdiv (IntKind.u64.wrap (IntKind.i64.wrap (i + j))) (2 ^ (min (1 : Int).toNat IntKind.u64.bits))))), .junk, .junk, .junk, (.int .i64 i), (.int .i64 j), (.bool (!leI j i)), (.int .i64 i), (.int .i64 j), (.int .i64 (IntKind.i64.wrap (i + j))), (.int .u64 (IntKind.u64.wrap (IntKind.i64.wrap (i + j)))), (.int .u64 (Int.fdiv (IntKind.u64.wrap (IntKind.i64.wrap (i + j))) (2 ^ (min (1 : Int).toNat IntKind.u64.bits)))), (.int .i64 (IntKind.i64.wrap (Int.fdiv (IntKind.u64.wrap (IntKind.i64.wrap (i + j))) (2 ^ (min (1 : Int).toNat IntKind.u64.bits))))), (.fn 91), (.sl 8 fr es), (.int .i64 (IntKind.i64.wrap (Int.fdiv (IntKind.u64.wrap (IntKind.i64.wrap (i + j))) (2 ^ (min (1 : Int).toNat IntKind.u64.bits))))), (.rptr 8 es (IntKind.i64.wrap (Int.fdiv (IntKind.u64.wrap (IntKind.i64.wrap (i + j))) (2 ^ (min (1 : Int).toNat IntKind.u64.bits)))).toNat 0), (.agg [(.int .i64 n1), (.int .i64 n2), (.int .i64 n3), (.int .i64 n4), (.int .i64 n5), (.sl 2 false r6), (.str s7), (.sl 2 false r8)]), (.int .i64 s), (.int .i64 (cmpI n1 s)), (.bool (!leI 0 (cmpI n1 s))), (.int .i64 (IntKind.i64.wrap (Int.fdiv (IntKind.u64.wrap (IntKind.i64.wrap (i + j))) (2 ^ (min (1 : Int).toNat IntKind.u64.bits))))), (.int .i64 (IntKind.i64.wrap ((IntKind.i64.wrap (Int.fdiv (IntKind.u64.wrap (IntKind.i64.wrap (i + j))) (2 ^ (min (1 : Int).toNat IntKind.u64.bits)))) + 1))), .junk, .junk, .junk, .junk, .junk, .junk, .junk, .junk, .junk, .junk, .junk, .junk, .junk, .junk, .junk], []⟩) (Q .normal ⟨[(.sl 8 fr es), (.int .i64 s), (.fn 91), .junk, .junk, .junk, .junk, .junk, (.int .i64 (es.length : Int)), (.int .i64 i), (.int .i64 (IntKind.i64.wrap (Int.fdiv (IntKind.u64.wrap (IntKind.i64.wrap (i + j))) (2 ^ (min (1 : Int).toNat IntKind.u64.bits))))), (.int .i64 (IntKind.i64.wrap (Int.fdiv (IntKind.u64.wrap (IntKind.i64.wrap (i + j))) (2 ^ (min (1 : Int).toNat IntKind.u64.bits))))), .junk, .junk, .junk, (.int .i64 i), (.int .i64 j), (.bool (!leI j i)), (.int .i64 i), (.int .i64 j), (.int .i64 (IntKind.i64.wrap (i + j))), (.int .u64 (IntKind.u64.wrap (IntKind.i64.wrap (i + j)))), (.int .u64 (Int.fdiv (IntKind.u64.wrap (IntKind.i64.wrap (i + j))) (2 ^ (min (1 : Int).toNat IntKind.u64.bits)))), (.int .i64 (IntKind.i64.wrap (Int.fdiv (IntKind.u64.wrap (IntKind.i64.wrap (i + j))) (2 ^ (min (1 : Int).toNat IntKind.u64.bits))))), (.fn 91), (.sl 8 fr es), (.int .i64 (IntKind.i64.wrap (Int.fdiv (IntKind.u64.wrap (IntKind.i64.wrap (i + j))) (2 ^ (min (1 : Int).toNat IntKind.u64.bits))))), (.rptr 8 es (IntKind.i64.wrap (Int.fdiv (IntKind.u64.wrap (IntKind.i64.wrap (i + j))) (2 ^ (min (1 : Int).toNat IntKind.u64.bits)))).toNat 0), (.agg [(.int .i64 n1), (.int .i64 n2), (.int .i64 n3), (.int .i64 n4), (.int .i64 n5), (.sl 2 false r6), (.str s7), (.sl 2 false r8)]), (.int .i64 s), (.int .i64 (cmpI n1 s)), (.bool (!leI 0 (cmpI n1 s))), .junk, .junk, (.int .i64 (IntKind.i64.wrap (Int.fdiv (IntKind.u64.wrap (IntKind.i64.wrap (i + j))) (2 ^ (min (1 : Int).toNat IntKind.u64.bits))))), .junk, .junk, .junk, .junk, .junk, .junk, .junk, .junk, .junk, .junk, .junk, .junk, .junk, .junk], []⟩)))))) (Q (.exit 0) ⟨[(.sl 8 fr es), (.int .i64 s), (.fn 91), .junk, .junk, .junk, .junk, .junk, (.int .i64 (es.length : Int)), (.int .i64 i), (.int .i64 j), .junk, .junk, .junk, .junk, (.int .i64 i), (.int .i64 j), (.bool (!leI j i)), .junk, .junk, .junk, .junk, .junk, .junk, .junk, .junk, .junk, .junk, .junk, .junk, .junk, .junk, .junk, .junk, .junk, .junk, .junk, .junk, .junk, .junk, .junk, .junk, .junk, .junk, .junk, .junk, .junk, .junk, .junk], []⟩)) := by kernel_rfl
theorem e90 (fr : Bool) (es : List (List AV)) (s i j : Int) {x3 x4 x5 x6 x7 x11 x12 x13 x14 x15 x16 x17 x18 x19 x20 x21 x22 x23 x24 x25 x26 x27 x28 x29 x30 x31 x32 x33 x34 x35 x36 x37 x38 x39 x40 x41 x42 x43 x44 x45 x46 x47 x48 : AV} (Φ : AV → List Ent → Prop) : wCodeS te GN3 0 (bodyAt Try.f90 [false, false, false, false]) ⟨[(.sl 8 fr es), (.int .i64 s), (.fn 91), x3, x4, x5, x6, x7, (.int .i64 (es.length : Int)), (.int .i64 i), (.int .i64 j), x11, x12, x13, x14, x15, x16, x17, x18, x19, x20, x21, x22, x23, x24, x25, x26, x27, x28, x29, x30, x31, x32, x33, x34, x35, x36, x37, x38, x39, x40, x41, x42, x43, x44, x45, x46, x47, x48], []⟩ (endQ te Try.f90 Φ) = (ifB (!leI (es.length : Int) i) ((0 ≤ i ∧ i < (es.length : Int)) ∧ (∃ n9, cellAt es i.toNat 0 = (.int .i64 n9) ∧ ∃ n10, cellAt es i.toNat 1 = (.int .i64 n10) ∧ ∃ n11, cellAt es i.toNat 2 = (.int .i64 n11) ∧ ∃ n12, cellAt es i.toNat 3 = (.int .i64 n12) ∧ ∃ n13, cellAt es i.toNat 4 = (.int .i64 n13) ∧ ∃ r14, cellAt es i.toNat 5 = (.sl 2 false r14) ∧ ∃ s15, cellAt es i.toNat 6 = (.str s15) ∧ ∃ r16, cellAt es i.toNat 7 = (.sl 2 false r16) ∧ (CCmN [(.agg [(.int .i64 n9), (.int .i64 n10), (.int .i64 n11), (.int .i64 n12), (.int .i64 n13), (.sl 2 false r14), (.str s15), (.sl 2 false r16)]), (.int .i64 s)] ∧ (Φ (.tup [(.int .i64 i), (.bool ((cmpI n9 s) == 0))]) [])))) (Φ (.tup [(.int .i64 i), (.bool false)]) [])) := by kernel_rfl
def CBN : List AV → Prop
  | [.sl 8 _ es, .int .i64 _, .fn f] => IsNodes es ∧ f = 91
  | _ => False
def gBN : List AV → AV
  | [.sl _ _ es, .int _ s, _] => .tup [.int .i64 (posI es s), .bool (fndI es s)]
  | _ => .junk
theorem cmpI_lt (a s : Int) : (!leI 0 (cmpI a s)) = decide (a < s) := by
  unfold cmpI
  split
  · rename_i h; rw [decide_eq_true h]; rfl
  · rename_i h
    rw [decide_eq_false h]
    split <;> rfl
theorem cmpI_eq (a s : Int) (h : ¬ a < s) : (cmpI a s == 0) = (a == s) := by
  unfold cmpI
  rw [if_neg h]
  split
  · rename_i h1
    have : ¬ a = s := by omega
    simp [this]
  · rename_i h1
    have : a = s := by omega
    simp [this]
theorem s90 {fr : Bool} {es : List (List AV)} {s : Int} (hn : IsNodes es) (Φ : AV → Ent → Prop) (h : Φ (.tup [.int .i64 (posI es s), .bool (fndI es s)]) .none) : wFunS te GN3 Try.f90 [.sl 8 fr es, .int .i64 s, .fn 91] [] (datFin Φ) := by
  have hl := hn.2.2
  rw [v90]
  refine ⟨fun n st => ∃ i j : Nat, j - i = n ∧ i ≤ j ∧ j ≤ es.length ∧ st = t90 fr es s i j ∧ (∀ k (hk : k < es.length), k < i → inI es[k] < s) ∧ (∀ k (hk : k < es.length), j ≤ k → ¬ inI es[k] < s),
    ⟨es.length, t90 fr es s (0 : Nat) es.length, ⟨0, es.length, by omega, by omega, Nat.le_refl _, rfl, fun k _ hk => by omega, fun k hk hk2 => by omega⟩, reT_to k90 0 rfl (by omega) rfl⟩, ?_⟩
  rintro n st ⟨i, j, hij, hle, hj, rfl, hlo, hhi⟩
  rw [b90]
  refine ifB_both (fun c1 => ?_) (fun c1 => ?_)
  · rw [not_leI] at c1
    have c1' := of_decide_eq_true c1
    have hm := mid_eq i j (by omega)
    rw [hm]
    have hmlt : (i + j) / 2 < es.length := by omega
    obtain ⟨a, x2, x3, x4, x5, bl, t, nm, hrow, ⟨q0, q1, q2, q3, q4, q5, q6, q7⟩, htx, _⟩ := node_at hn hmlt
    refine ⟨by omega, by omega, a, by rw [Int.toNat_natCast]; exact q0, x2, by rw [Int.toNat_natCast]; exact q1, x3, by rw [Int.toNat_natCast]; exact q2, x4, by rw [Int.toNat_natCast]; exact q3, x5, by rw [Int.toNat_natCast]; exact q4, bl, by rw [Int.toNat_natCast]; exact q5, t, by rw [Int.toNat_natCast]; exact q6, nm, by rw [Int.toNat_natCast]; exact q7, trivial, ?_⟩
    rw [cmpI_lt]
    refine ifB_both (fun c2 => ?_) (fun c2 => ?_)
    · have c2' := of_decide_eq_true c2
      have hw : IntKind.i64.wrap ((((i + j) / 2 : Nat) : Int) + 1) = (((i + j) / 2 + 1 : Nat) : Int) := by rw [IntWalk.i64_in _ (by omega)]; omega
      rw [hw]
      refine ⟨j - ((i + j) / 2 + 1), t90 fr es s (((i + j) / 2 + 1 : Nat) : Int) j, by omega, ⟨(i + j) / 2 + 1, j, rfl, by omega, hj, rfl, fun k hk hki => ?_, hhi⟩, reT_to k90 0 rfl (by omega) rfl⟩
      exact nodes_mono hn (a := k) (b := (i + j) / 2) (by omega) hmlt (by rw [htx]; exact c2')
    · have c2' := of_decide_eq_false c2
      refine ⟨(i + j) / 2 - i, t90 fr es s i (((i + j) / 2 : Nat) : Int), by omega, ⟨i, (i + j) / 2, rfl, by omega, by omega, rfl, hlo, fun k hk hki hb => ?_⟩, reT_to k90 0 rfl (by omega) rfl⟩
      have := nodes_mono hn (a := (i + j) / 2) (b := k) hki hk hb
      rw [htx] at this
      exact c2' this
  · rw [not_leI] at c1
    have c1' := of_decide_eq_false c1
    have hij' : i = j := by omega
    subst hij'
    have hpos : posKI es s = i := while_len hj (fun k hk hki => decide_eq_true (hlo k hk hki)) (fun hk => decide_eq_false (hhi i hk (Nat.le_refl _)))
    have hposN : posI es s = (i : Int) := by unfold posI; rw [hpos]
    refine rs_exit ?_
    rw [e90]
    refine ifB_both (fun c2 => ?_) (fun c2 => ?_)
    · rw [not_leI] at c2
      have c2' := of_decide_eq_true c2
      have hilt : i < es.length := by omega
      obtain ⟨a, x2, x3, x4, x5, bl, t, nm, hrow, ⟨q0, q1, q2, q3, q4, q5, q6, q7⟩, htx, _⟩ := node_at hn hilt
      refine ⟨by omega, a, by rw [Int.toNat_natCast]; exact q0, x2, by rw [Int.toNat_natCast]; exact q1, x3, by rw [Int.toNat_natCast]; exact q2, x4, by rw [Int.toNat_natCast]; exact q3, x5, by rw [Int.toNat_natCast]; exact q4, bl, by rw [Int.toNat_natCast]; exact q5, t, by rw [Int.toNat_natCast]; exact q6, nm, by rw [Int.toNat_natCast]; exact q7, trivial, ?_⟩
      have hlt : ¬ a < s := by rw [← htx]; exact hhi i hilt (Nat.le_refl _)
      rw [cmpI_eq a s hlt]
      have hf : fndI es s = (a == s) := by
        unfold fndI
        rw [hpos, List.getElem?_eq_getElem hilt]
        show (inI es[i] == s) = _
        rw [htx]
      rw [hposN, hf] at h
      exact h
    · rw [not_leI] at c2
      have c2' := of_decide_eq_false c2
      have hf : fndI es s = false := by
        unfold fndI
        rw [hpos, List.getElem?_eq_none (by omega)]
      rw [hposN, hf] at h
      exact h
theorem fn90 : SpecSound Try.prog 90 (.fn CBN gBN) := dat_soundS te_ok GN3_sound mixed isFun_90 (by
  rintro xs Φ ⟨hC, h⟩
  unfold CBN at hC
  split at hC
  · obtain ⟨h1, rfl⟩ := hC
    exact s90 h1 Φ h
  · cases hC)
def GN4 : GE := fun f => match f with
  | 90 => some (.fn CBN gBN)
  | _ => none
theorem GN4_sound : Sound Try.prog GN4 := by
  intro f sp h
  unfold GN4 at h
  split at h
  · cases h; exact fn90
  · cases h
theorem v56 (a b c : Int) (fr : Bool) (es : List (List AV)) (k : Int) (Φ : AV → List Ent → Prop) : wFunS te GN4 Try.f56 [(.agg [(.int .i64 a), (.int .i64 b), (.int .i64 c), (.sl 8 fr es)]), (.int .i64 k)] [] Φ = (CBN [(.sl 8 false es), (.int .i64 k), (.fn 91)] ∧ (Φ (.tup [(.int .i64 (posI es k)), (.bool (fndI es k))]) [(.var [(.int .i64 a), (.int .i64 b), (.int .i64 c), (.sl 8 fr es)])])) := by kernel_rfl
def CPN : List AV → Prop
  | [.agg [.int .i64 _, .int .i64 _, .int .i64 _, .sl 8 _ es], .int .i64 _] => IsNodes es
  | _ => False
def gPN : List AV → AV
  | [.agg [_, _, _, .sl _ _ es], .int _ k] => .tup [.int .i64 (posI es k), .bool (fndI es k)]
  | _ => .junk
theorem fn56 : SpecSound Try.prog 56 (.fn CPN gPN) := dat_soundS te_ok GN4_sound mixed isFun_56 (by
  rintro xs Φ ⟨hC, h⟩
  unfold CPN at hC
  split at hC
  · rw [v56]; exact ⟨⟨hC, rfl⟩, h⟩
  · cases hC)
end Go.Proofs.Ytdojencjbmahpaa
end
/-
  Nodes in new memory: the contracts of disk.file, disk.node, disk.Get.
-/
section
namespace Go.Proofs.Ytdojencjbmahpaa
open Go.Rf
set_option maxRecDepth 100000
set_option linter.unusedVariables false
set_option linter.unusedSimpArgs false
theorem isFun_118 : IsFun Try.prog 118 Try.f118 := ⟨Try.func118, by kernel_rfl, by kernel_rfl⟩
theorem isFun_95 : IsFun Try.prog 95 Try.f95 := ⟨Try.func95, by kernel_rfl, by kernel_rfl⟩
theorem isFun_94 : IsFun Try.prog 94 Try.f94 := ⟨Try.func94, by kernel_rfl, by kernel_rfl⟩
theorem isFun_58 : IsFun Try.prog 58 Try.f58 := ⟨Try.func58, by kernel_rfl, by kernel_rfl⟩
theorem isFun_43 : IsFun Try.prog 43 Try.f43 := ⟨Try.func43, by kernel_rfl, by kernel_rfl⟩
/-- A clone: an array of the call's own. -/
def gClone (sz bytes : Nat) : GSpec := fun xs H Φ => match xs with
  | [.sl z _ es] => (z = sz ∧ room es.length bytes) ∧ Φ (.own H.length 1 es.length) (setH H H.length (.arr true 1 sz none es))
  | _ => False
theorem roomB_of {n b : Nat} (h : room n b) : roomB n b = true := decide_eq_true h
theorem gClone_of {P : Program} {f : FuncId} {sz bytes : Nat} (hs : SpecSound P f (XS.spec (.gen (xClone sz bytes)))) : SpecSound P f (.gen (gClone sz bytes)) := by
  intro w S ρ H xs args Φ hm hargs hΦ
  unfold gClone at hΦ
  split at hΦ
  · rename_i z fr es
    obtain ⟨⟨h1, h2⟩, h3⟩ := hΦ
    refine hs w S ρ H _ args Φ hm hargs ⟨_, _, ?_, h3⟩
    subst h1
    show whenB (andB (eqb z z) (roomB es.length bytes)) (some (AV.own H.length 1 es.length, setH H H.length (Ent.arr true 1 z none es))) = _
    rw [eqb_self, roomB_of h2]
    rfl
  · cases hΦ
def CB1 : List AV → Prop
  | [.sl 1 _ es] => es.length ≤ 1000000000
  | _ => False
def gSame1 : List AV → AV
  | [.sl z _ es] => .sl z false es
  | _ => .junk
def CN2 : List AV → Prop
  | [.sl 2 _ es] => es.length ≤ 1000000000
  | _ => False
theorem fits_any (n : Nat) (es : List (List AV)) : fits n n es = true := by
  cases es with
  | nil => rfl
  | cons a l => exact eqb_self n
theorem clone_dat {f : FuncId} {fn : Func} {n b : Nat} (hfn : IsFun Try.prog f fn) (hb : b ≤ 100)
    (hv : ∀ (fr : Bool) (es : List (List AV)) (Φ : AV → List Ent → Prop), wFunS te nGE' fn [.sl n fr es] [] Φ =
      (∀ b' : Bool, (b' = true → es = []) → ifB b' (Φ (.sl n true []) []) (((fits n n es = true ∧ fits n n [] = true) ∧ (([] : List (List AV)) = [] ∨ es ≠ []) ∧ room (0 + es.length) b) ∧ Φ (.own 0 1 (0 + es.length)) [.arr true 1 n none ([] ++ es)])))
    {C : List AV → Prop} (hC : ∀ xs, C xs → ∃ fr es, xs = [.sl n fr es] ∧ es.length ≤ 1000000000) : SpecSound Try.prog f (.fn C gSame1) := dat_soundS te_ok nGE'_sound mixed hfn (by
  rintro xs Φ ⟨hc, h⟩
  obtain ⟨fr, es, rfl, hl⟩ := hC xs hc
  rw [hv]
  have h' : Φ (.sl n false es) .none := h
  intro b' hb'
  cases b' with
  | true => rw [hb' rfl] at h'; exact h'
  | false =>
    refine ⟨⟨⟨fits_any n es, rfl⟩, .inl rfl, ?_⟩, ?_⟩
    · unfold room
      have h1 : (0 + es.length) * b ≤ 1000000000 * 100 := Nat.mul_le_mul (by omega) hb
      omega
    · refine ⟨⟨rfl, by simp⟩, ?_⟩
      exact h')
theorem fn118 : SpecSound Try.prog 118 (.fn CB1 gSame1) := clone_dat isFun_118 (b := 1) (n := 1) (by omega) (fun fr es Φ => by kernel_rfl) (by
  intro xs h
  unfold CB1 at h
  split at h
  · exact ⟨_, _, rfl, h⟩
  · cases h)
theorem fn95 : SpecSound Try.prog 95 (.fn CN2 gSame1) := clone_dat isFun_95 (b := 24) (n := 2) (by omega) (fun fr es Φ => by kernel_rfl) (by
  intro xs h
  unfold CN2 at h
  split at h
  · exact ⟨_, _, rfl, h⟩
  · cases h)
def GF1 : GE := fun f => match f with
  | 117 => some (.gen (gClone 2 32))
  | 118 => some (.fn CB1 gSame1)
  | _ => none
theorem GF1_sound : Sound Try.prog GF1 := by
  intro f sp h
  unfold GF1 at h
  split at h
  · cases h; exact gClone_of clone_117
  · cases h; exact fn118
  · cases h
theorem v94 (n : Int) (fr : Bool) (es : List (List AV)) (Φ : AV → List Ent → Prop) : wFunS te GF1 Try.f94 [(.agg [(.int .i64 n), (.sl 2 fr es)])] [] Φ = ((2 = 2 ∧ room es.length 32) ∧ (wLoopS 0 (wCodeS te GF1 0 (bodyAt Try.f94 [false, false, true, false, true, true])) ⟨[(.agg [(.int .i64 n), (.sl 2 fr es)]), (.ptr 0 0), (.ptr 1 0), .junk, (.ptr 0 1), (.sl 2 fr es), (.own 2 1 es.length), (.ptr 0 1), (.ptr 0 1), (.own 2 1 es.length), (.int .i64 (es.length : Int)), (.int .i64 0), .junk, .junk, .junk, .junk, .junk, .junk, .junk, .junk, .junk, .junk, .junk, .junk, .junk, .junk, .junk, .junk], [(.var [(.int .i64 n), (.own 2 1 es.length)]), (.var [(.int .i64 0), (.sl 2 true ([] : List (List AV)))]), (.arr true 1 2 none es)]⟩ (blkQ 0 (seqQ (wCodeS te GF1 0 (bodyAt Try.f94 [false, false, false])) (endQ te Try.f94 Φ))))) := by kernel_rfl
def t94 (n : Int) (m : Nat) (es : List (List AV)) (i : Int) : St := ⟨[.junk, (.ptr 0 0), (.ptr 1 0), .junk, .junk, .junk, .junk, .junk, .junk, .junk, (.int .i64 (m : Int)), (.int .i64 i), .junk, .junk, .junk, .junk, .junk, .junk, .junk, .junk, .junk, .junk, .junk, .junk, .junk, .junk, .junk, .junk], [(.var [(.int .i64 n), (.own 2 1 m)]), (.var [(.int .i64 0), (.sl 2 true ([] : List (List AV)))]), (.arr true 1 2 none es)]⟩
def k94 : List Bool := [false, true, true, false, false, false, false, false, false, false, true, true, false, false, false, false, false, false, false, false, false, false, false, false, false, false, false, false]
theorem b94 (n : Int) (m : Nat) (es : List (List AV)) (i : Int) (Q : KontX) : wCodeS te GF1 0 (bodyAt Try.f94 [false, false, true, false, true, true]) (t94 n m es i) Q = (ifB (!leI (m : Int) i) ((0 ≤ i ∧ i < (m : Int)) ∧ ((1 = 1 ∧ (i).toNat < es.length) ∧ (∃ r1, cellAt es (i).toNat 1 = (.sl 1 false r1) ∧ (CB1 [(.sl 1 false r1)] ∧ ((0 ≤ i ∧ i < (m : Int)) ∧ ((1 = 1 ∧ (i).toNat < es.length) ∧ (Q .normal ⟨[.junk, (.ptr 0 0), (.ptr 1 0), (.int .i64 i), .junk, .junk, .junk, .junk, .junk, .junk, (.int .i64 (m : Int)), (.int .i64 (IntKind.i64.wrap (i + 1))), (.bool (!leI (m : Int) i)), (.int .i64 i), (.ptr 0 1), (.own 2 1 m), (.int .i64 i), (.ptr 0 1), (.own 2 1 m), (.int .i64 i), (.eptr 2 1 (i).toNat 0), (.eptr 2 1 (i).toNat 1), (.sl 1 false r1), (.sl 1 false r1), (.eptr 2 1 (i).toNat 0), (.eptr 2 1 (i).toNat 1), (.int .i64 (IntKind.i64.wrap (i + 1))), .junk], [(.var [(.int .i64 n), (.own 2 1 m)]), (.var [(.int .i64 0), (.sl 2 true ([] : List (List AV)))]), (.arr true 1 2 none (es.set (i).toNat (setCells (es.getD (i).toNat []) 1 [(.sl 1 false r1)]))), .none, .none, .none, .none, .none, .none, .none, .none, .none, .none]⟩))))))) (Q (.exit 0) ⟨[.junk, (.ptr 0 0), (.ptr 1 0), .junk, .junk, .junk, .junk, .junk, .junk, .junk, (.int .i64 (m : Int)), (.int .i64 i), (.bool (!leI (m : Int) i)), .junk, .junk, .junk, .junk, .junk, .junk, .junk, .junk, .junk, .junk, .junk, .junk, .junk, .junk, .junk], [(.var [(.int .i64 n), (.own 2 1 m)]), (.var [(.int .i64 0), (.sl 2 true ([] : List (List AV)))]), (.arr true 1 2 none es)]⟩)) := by kernel_rfl
theorem e94 (n : Int) (m : Nat) (es : List (List AV)) {x0 x3 x4 x5 x6 x7 x8 x9 x10 x11 x12 x13 x14 x15 x16 x17 x18 x19 x20 x21 x22 x23 x24 x25 x26 x27 : AV} (Φ : AV → List Ent → Prop) : wCodeS te GF1 0 (bodyAt Try.f94 [false, false, false]) ⟨[x0, (.ptr 0 0), (.ptr 1 0), x3, x4, x5, x6, x7, x8, x9, x10, x11, x12, x13, x14, x15, x16, x17, x18, x19, x20, x21, x22, x23, x24, x25, x26, x27], [(.var [(.int .i64 n), (.own 2 1 m)]), (.var [(.int .i64 0), (.sl 2 true ([] : List (List AV)))]), (.arr true 1 2 none es)]⟩ (endQ te Try.f94 Φ) = (Φ (.agg [(.int .i64 n), (.own 2 1 m)]) [(.var [(.int .i64 n), (.own 2 1 m)]), (.var [(.int .i64 n), (.own 2 1 m)]), (.arr true 1 2 none es)]) := by kernel_rfl
theorem block_at {es : List (List AV)} (h : IsBlocks es) {i : Nat} (hi : i < es.length) : ∃ a d, es[i] = [.int .i64 a, .sl 1 false d] ∧ cellAt es i 0 = .int .i64 a ∧ cellAt es i 1 = .sl 1 false d ∧ d.length = 16 ∧ (∀ x ∈ d, isByte x) ∧ 0 ≤ a ∧ a ≤ 32768 ∧ inI es[i] = a := by
  obtain ⟨a, d, he, hd, hy, h0, h1⟩ := h.1 es[i] (List.getElem_mem hi)
  have hg : es[i]? = some [.int .i64 a, .sl 1 false d] := by rw [List.getElem?_eq_getElem hi, he]
  refine ⟨a, d, he, ?_, ?_, hd, hy, h0, h1, by rw [he]; rfl⟩ <;> simp [cellAt, List.getD_eq_getElem?_getD, hg]
theorem set_same {es : List (List AV)} {i : Nat} (hi : i < es.length) {k : Nat} {v : AV} (hv : setCells es[i] k [v] = es[i]) : es.set i (setCells (es.getD i []) k [v]) = es := by
  rw [List.getD_eq_getElem?_getD, List.getElem?_eq_getElem hi]
  show es.set i (setCells es[i] k [v]) = es
  rw [hv]
  exact List.set_getElem_self hi
def CFile : List AV → Prop
  | [.agg [.int .i64 _, .sl 2 _ es]] => IsBlocks es
  | _ => False
def gFile : List AV → AV
  | [.agg [a, .sl _ _ es]] => .agg [a, .sl 2 false es]
  | _ => .junk
theorem s94 {n : Int} {fr : Bool} {es : List (List AV)} (hb : IsBlocks es) (Φ : AV → Ent → Prop) (h : Φ (.agg [.int .i64 n, .sl 2 false es]) .none) : wFunS te GF1 Try.f94 [.agg [.int .i64 n, .sl 2 fr es]] [] (datFin Φ) := by
  have hl := hb.2.2
  rw [v94]
  refine ⟨⟨rfl, by unfold room; omega⟩, fun r st => ∃ i : Nat, i + r = es.length ∧ st = t94 n es.length es i, ⟨es.length, t94 n es.length es (0 : Nat), ⟨0, by omega, rfl⟩, reT_to k94 3 rfl (by omega) rfl⟩, ?_⟩
  rintro r st ⟨i, hi, rfl⟩
  rw [b94]
  refine ifB_both (fun c1 => ?_) (fun c1 => ?_)
  · rw [not_leI] at c1
    have c1' := of_decide_eq_true c1
    have hlt : i < es.length := by omega
    have hw : IntKind.i64.wrap ((i : Int) + 1) = ((i + 1 : Nat) : Int) := by rw [IntWalk.i64_in _ (by omega)]; omega
    obtain ⟨a, d, he, h0, h1, hd, _⟩ := block_at hb hlt
    rw [hw, Int.toNat_natCast]
    have hset : es.set i (setCells (es.getD i []) 1 [.sl 1 false d]) = es := set_same hlt (by rw [he]; rfl)
    refine ⟨by omega, ⟨rfl, hlt⟩, d, h1, by show d.length ≤ 1000000000; omega, by omega, ⟨rfl, hlt⟩, ?_⟩
    rw [hset]
    exact ⟨r - 1, t94 n es.length es ((i + 1 : Nat) : Int), by omega, ⟨i + 1, by omega, rfl⟩, reT_to k94 3 rfl (by omega) rfl⟩
  · refine rs_exit ?_
    rw [e94]
    exact ⟨⟨rfl, rfl⟩, h⟩
theorem fn94 : SpecSound Try.prog 94 (.fn CFile gFile) := dat_soundS te_ok GF1_sound mixed isFun_94 (by
  rintro xs Φ ⟨hC, h⟩
  unfold CFile at hC
  split at hC
  · exact s94 hC Φ h
  · cases hC)
def GF2 : GE := fun f => match f with
  | 94 => some (.fn CFile gFile)
  | 95 => some (.fn CN2 gSame1)
  | _ => none
theorem GF2_sound : Sound Try.prog GF2 := by
  intro f sp h
  unfold GF2 at h
  split at h
  · cases h; exact fn94
  · cases h; exact fn95
  · cases h
theorem v58 (a b c d e : Int) (f1 f2 : Bool) (bl nm : List (List AV)) (t : ByteArray) (Φ : AV → List Ent → Prop) : wFunS te GF2 Try.f58 [(.agg [(.int .i64 a), (.int .i64 b), (.int .i64 c), (.int .i64 d), (.int .i64 e), (.sl 2 f1 bl), (.str t), (.sl 2 f2 nm)])] [] Φ = (CFile [(.agg [(.int .i64 e), (.sl 2 false bl)])] ∧ (CN2 [(.sl 2 false nm)] ∧ (Φ (.agg [(.int .i64 a), (.int .i64 b), (.int .i64 c), (.int .i64 d), (.int .i64 e), (.sl 2 false bl), (.str t), (.sl 2 false nm)]) [(.var [(.int .i64 a), (.int .i64 b), (.int .i64 c), (.int .i64 d), (.int .i64 e), (.sl 2 false bl), (.str t), (.sl 2 false nm)]), (.var [(.int .i64 a), (.int .i64 b), (.int .i64 c), (.int .i64 d), (.int .i64 e), (.sl 2 false bl), (.str t), (.sl 2 false nm)])]))) := by kernel_rfl
def CNode : List AV → Prop
  | [.agg [.int .i64 _, .int .i64 _, .int .i64 _, .int .i64 _, .int .i64 _, .sl 2 _ bl, .str _, .sl 2 _ nm]] => IsBlocks bl ∧ nm.length ≤ 1000000000
  | _ => False
def gNode : List AV → AV
  | [.agg [a, b, c, d, e, .sl _ _ bl, t, .sl _ _ nm]] => .agg [a, b, c, d, e, .sl 2 false bl, t, .sl 2 false nm]
  | _ => .junk
theorem fn58 : SpecSound Try.prog 58 (.fn CNode gNode) := dat_soundS te_ok GF2_sound mixed isFun_58 (by
  rintro xs Φ ⟨hC, h⟩
  unfold CNode at hC
  split at hC
  · rw [v58]; exact ⟨hC.1, hC.2, h⟩
  · cases hC)
def GF3 : GE := fun f => match f with
  | 56 => some (.fn CPN gPN)
  | 58 => some (.fn CNode gNode)
  | _ => none
theorem GF3_sound : Sound Try.prog GF3 := by
  intro f sp h
  unfold GF3 at h
  split at h
  · cases h; exact fn56
  · cases h; exact fn58
  · cases h
theorem v43 (a b c : Int) (fr : Bool) (es : List (List AV)) (k : Int) (Φ : AV → List Ent → Prop) : wFunS te GF3 Try.f43 [(.agg [(.int .i64 a), (.int .i64 b), (.int .i64 c), (.sl 8 fr es)]), (.int .i64 k)] [] Φ = (CPN [(.agg [(.int .i64 a), (.int .i64 b), (.int .i64 c), (.sl 8 false es)]), (.int .i64 k)] ∧ (ifB (!(fndI es k)) (Φ (.tup [(.agg [(.int .i64 0), (.int .i64 0), (.int .i64 0), (.int .i64 0), (.int .i64 0), (.sl 2 true ([] : List (List AV))), (.str ⟨#[]⟩), (.sl 2 true ([] : List (List AV)))]), (.bool false)]) [(.var [(.int .i64 a), (.int .i64 b), (.int .i64 c), (.sl 8 fr es)]), (.var [(.int .i64 0), (.int .i64 0), (.int .i64 0), (.int .i64 0), (.int .i64 0), (.sl 2 true ([] : List (List AV))), (.str ⟨#[]⟩), (.sl 2 true ([] : List (List AV)))])]) ((0 ≤ (posI es k) ∧ (posI es k) < (es.length : Int)) ∧ (∃ n2, cellAt es (posI es k).toNat 0 = (.int .i64 n2) ∧ ∃ n3, cellAt es (posI es k).toNat 1 = (.int .i64 n3) ∧ ∃ n4, cellAt es (posI es k).toNat 2 = (.int .i64 n4) ∧ ∃ n5, cellAt es (posI es k).toNat 3 = (.int .i64 n5) ∧ ∃ n6, cellAt es (posI es k).toNat 4 = (.int .i64 n6) ∧ ∃ r7, cellAt es (posI es k).toNat 5 = (.sl 2 false r7) ∧ ∃ s8, cellAt es (posI es k).toNat 6 = (.str s8) ∧ ∃ r9, cellAt es (posI es k).toNat 7 = (.sl 2 false r9) ∧ (CNode [(.agg [(.int .i64 n2), (.int .i64 n3), (.int .i64 n4), (.int .i64 n5), (.int .i64 n6), (.sl 2 false r7), (.str s8), (.sl 2 false r9)])] ∧ (Φ (.tup [(.agg [(.int .i64 n2), (.int .i64 n3), (.int .i64 n4), (.int .i64 n5), (.int .i64 n6), (.sl 2 false r7), (.str s8), (.sl 2 false r9)]), (.bool true)]) [(.var [(.int .i64 a), (.int .i64 b), (.int .i64 c), (.sl 8 fr es)]), (.var [(.int .i64 n2), (.int .i64 n3), (.int .i64 n4), (.int .i64 n5), (.int .i64 n6), (.sl 2 false r7), (.str s8), (.sl 2 false r9)])])))))) := by kernel_rfl
/-- The zero node. -/
def zN : List AV := [.int .i64 0, .int .i64 0, .int .i64 0, .int .i64 0, .int .i64 0, .sl 2 false [], .str ⟨#[]⟩, .sl 2 false []]
/-- The node of a number; else the zero node. -/
def rowI (es : List (List AV)) (k : Int) : List AV := if fndI es k = true then es.getD (posKI es k) [] else zN
def gGet : List AV → AV
  | [.agg [_, _, _, .sl _ _ es], .int _ k] => .tup [.agg (rowI es k), .bool (fndI es k)]
  | _ => .junk
theorem fndI_lt {es : List (List AV)} {k : Int} (h : fndI es k = true) : posKI es k < es.length := by
  rcases Nat.lt_or_ge (posKI es k) es.length with hh | hh
  · exact hh
  · unfold fndI at h
    rw [List.getElem?_eq_none hh] at h
    cases h
theorem rowI_at {es : List (List AV)} {k : Int} (h : fndI es k = true) : rowI es k = es[posKI es k]'(fndI_lt h) := by
  unfold rowI
  rw [if_pos h, List.getD_eq_getElem?_getD, List.getElem?_eq_getElem (fndI_lt h)]
  rfl
theorem fn43 : SpecSound Try.prog 43 (.fn CPN gGet) := dat_soundS te_ok GF3_sound mixed isFun_43 (by
  rintro xs Φ ⟨hC, h⟩
  unfold CPN at hC
  split at hC
  · rename_i a b c fr es k
    rw [v43]
    have h' : Φ (.tup [.agg (rowI es k), .bool (fndI es k)]) .none := h
    refine ⟨hC, ifB_both (fun c1 => ?_) (fun c1 => ?_)⟩
    · have hf : fndI es k = false := by simpa using c1
      have hr : rowI es k = zN := by unfold rowI; rw [if_neg (by rw [hf]; decide)]
      rw [hf, hr] at h'
      exact h'
    · have hf : fndI es k = true := by simpa using c1
      have hlt := fndI_lt hf
      obtain ⟨a, x2, x3, x4, x5, bl, t, nm, hrow, ⟨q0, q1, q2, q3, q4, q5, q6, q7⟩, htx, hbl, hnm⟩ := node_at hC hlt
      rw [rowI_at hf, hrow, hf] at h'
      have hp : posI es k = (posKI es k : Int) := rfl
      rw [hp]
      refine ⟨by omega, a, by rw [Int.toNat_natCast]; exact q0, x2, by rw [Int.toNat_natCast]; exact q1, x3, by rw [Int.toNat_natCast]; exact q2, x4, by rw [Int.toNat_natCast]; exact q3, x5, by rw [Int.toNat_natCast]; exact q4, bl, by rw [Int.toNat_natCast]; exact q5, t, by rw [Int.toNat_natCast]; exact q6, nm, by rw [Int.toNat_natCast]; exact q7, ⟨hbl, hnm.2.2⟩, ?_⟩
      exact h'
  · cases hC)
end Go.Proofs.Ytdojencjbmahpaa
end
/-
  From a path to a node: the contract of find.Node.
-/
section
namespace Go.Proofs.Ytdojencjbmahpaa
open Go.Rf
set_option maxRecDepth 100000
set_option linter.unusedVariables false
set_option linter.unusedSimpArgs false
/-- Cells of a node's row. -/
def nI : List AV → Nat → Int
  | [], _ => 0
  | .int _ n :: _, 0 => n
  | _ :: _, 0 => 0
  | _ :: l, i + 1 => nI l i
def sI : List AV → Nat → List (List AV)
  | [], _ => []
  | .sl _ _ es :: _, 0 => es
  | _ :: _, 0 => []
  | _ :: l, i + 1 => sI l i
def bI : List AV → ByteArray
  | [_, _, _, _, _, _, .str s, _] => s
  | _ => ⟨#[]⟩
def cells (r : List AV) : List AV := [.int .i64 (nI r 0), .int .i64 (nI r 1), .int .i64 (nI r 2), .int .i64 (nI r 3), .int .i64 (nI r 4), .sl 2 false (sI r 5), .str (bI r), .sl 2 false (sI r 7)]
theorem cells_of {r : List AV} (h : IsNode r) : cells r = r := by
  obtain ⟨a, b, c, d, s, bl, t, nm, rfl, _⟩ := h
  rfl
theorem isNode_z : IsNode zN := ⟨0, 0, 0, 0, 0, [], ⟨#[]⟩, [], rfl, ⟨by simp, by simp, by simp⟩, ⟨by simp, by simp, by simp⟩⟩
theorem isNode_row {es : List (List AV)} (h : IsNodes es) (k : Int) : IsNode (rowI es k) := by
  unfold rowI
  split
  · rename_i hf
    rw [List.getD_eq_getElem?_getD, List.getElem?_eq_getElem (fndI_lt hf)]
    exact h.1 _ (List.getElem_mem _)
  · exact isNode_z
def gGet' : List AV → AV
  | [.agg [_, _, _, .sl _ _ es], .int _ k] => .tup [.agg [.int .i64 (nI (rowI es k) 0), .int .i64 (nI (rowI es k) 1), .int .i64 (nI (rowI es k) 2), .int .i64 (nI (rowI es k) 3), .int .i64 (nI (rowI es k) 4), .sl 2 false (sI (rowI es k) 5), .str (bI (rowI es k)), .sl 2 false (sI (rowI es k) 7)], .bool (fndI es k)]
  | _ => .junk
theorem gGet_eq {xs : List AV} (h : CPN xs) : gGet' xs = gGet xs := by
  unfold CPN at h
  split at h
  · rename_i a b c fr es k
    show AV.tup [.agg (cells (rowI es k)), .bool (fndI es k)] = AV.tup [.agg (rowI es k), .bool (fndI es k)]
    rw [cells_of (isNode_row h k)]
  · cases h
theorem fn_congr {P : Program} {f : FuncId} {C : List AV → Prop} {g g' : List AV → AV} (hs : SpecSound P f (.fn C g)) (hg : ∀ xs, C xs → g' xs = g xs) : SpecSound P f (.fn C g') := by
  rintro w S ρ xs args Φ hS hargs ⟨hC, hΦ⟩
  exact hs w S ρ xs args Φ hS hargs ⟨hC, by rw [← hg xs hC]; exact hΦ⟩
theorem fn43' : SpecSound Try.prog 43 (.fn CPN gGet') := fn_congr fn43 fun xs h => gGet_eq h
/-- Down a path, from a node. -/
def walkN (es : List (List AV)) : List AV → List (List AV) → List AV × Int
  | cur, [] => (cur, 0)
  | cur, s :: l => if nI cur 1 = 2 then (if fndN (sI cur 7) (txN s) = true then walkN es (rowI es (inoN (sI cur 7) (txN s))) l else (zN, 2)) else (zN, 4)
def nodeN (es ls : List (List AV)) : List AV × Int := walkN es (rowI es 1) ls
def AllTxt (ls : List (List AV)) : Prop := ∀ e ∈ ls, ∃ s, e = [.str s]
def CFN : List AV → Prop
  | [.agg [.int .i64 _, .int .i64 _, .int .i64 _, .sl 8 _ es], .sl 1 _ ls] => IsNodes es ∧ AllTxt ls ∧ ls.length ≤ 1000000000
  | _ => False
def gFN : List AV → AV
  | [.agg [_, _, _, .sl _ _ es], .sl _ _ ls] => .tup [.agg (nodeN es ls).1, .int .i64 (nodeN es ls).2]
  | _ => .junk
theorem txt_at {ls : List (List AV)} (h : AllTxt ls) {i : Nat} (hi : i < ls.length) : ∃ s, ls[i] = [.str s] ∧ cellAt ls i 0 = .str s := by
  obtain ⟨s, he⟩ := h ls[i] (List.getElem_mem hi)
  have hg : ls[i]? = some [.str s] := by rw [List.getElem?_eq_getElem hi, he]
  exact ⟨s, he, by simp [cellAt, List.getD_eq_getElem?_getD, hg]⟩
theorem walkN_node {es : List (List AV)} (h : IsNodes es) : ∀ (ls : List (List AV)) (cur : List AV), IsNode cur → IsNode (walkN es cur ls).1
  | [], cur, hc => hc
  | s :: l, cur, hc => by
    unfold walkN
    split
    · split
      · exact walkN_node h l _ (isNode_row h _)
      · exact isNode_z
    · exact isNode_z
end Go.Proofs.Ytdojencjbmahpaa
end
/-
  What a file holds: the contracts of sparse.block, sparse.Read, keep.Read, keep.Info.
-/
section
namespace Go.Proofs.Ytdojencjbmahpaa
open Go.Rf
set_option maxRecDepth 100000
set_option linter.unusedVariables false
set_option linter.unusedSimpArgs false
theorem isFun_121 : IsFun Try.prog 121 Try.f121 := ⟨Try.func121, by kernel_rfl, by kernel_rfl⟩
theorem isFun_104 : IsFun Try.prog 104 Try.f104 := ⟨Try.func104, by kernel_rfl, by kernel_rfl⟩
theorem isFun_103 : IsFun Try.prog 103 Try.f103 := ⟨Try.func103, by kernel_rfl, by kernel_rfl⟩
theorem isFun_102 : IsFun Try.prog 102 Try.f102 := ⟨Try.func102, by kernel_rfl, by kernel_rfl⟩
theorem isFun_67 : IsFun Try.prog 67 Try.f67 := ⟨Try.func67, by kernel_rfl, by kernel_rfl⟩
theorem isFun_52 : IsFun Try.prog 52 Try.f52 := ⟨Try.func52, by kernel_rfl, by kernel_rfl⟩
theorem isFun_38 : IsFun Try.prog 38 Try.f38 := ⟨Try.func38, by kernel_rfl, by kernel_rfl⟩
theorem isFun_39 : IsFun Try.prog 39 Try.f39 := ⟨Try.func39, by kernel_rfl, by kernel_rfl⟩
theorem isFun_25 : IsFun Try.prog 25 Try.f25 := ⟨Try.func25, by kernel_rfl, by kernel_rfl⟩
theorem isFun_17 : IsFun Try.prog 17 Try.f17 := ⟨Try.func17, by kernel_rfl, by kernel_rfl⟩
theorem v121 (a : Int) (Φ : AV → List Ent → Prop) : wFunS te nGE' Try.f121 [(.int .i64 a)] [] Φ = (Φ (.bool (a != a)) []) := by kernel_rfl
theorem fn121 : SpecSound Try.prog 121 (.fn C1I (fun _ => .bool false)) := dat_soundS te_ok nGE'_sound mixed isFun_121 (by
  rintro xs Φ ⟨hC, h⟩
  unfold C1I at hC
  split at hC
  · rename_i a
    rw [v121, show (a != a) = false from by simp]
    exact h
  · cases hC)
def GB1 : GE := fun f => match f with
  | 121 => some (.fn C1I (fun _ => .bool false))
  | _ => none
theorem GB1_sound : Sound Try.prog GB1 := by
  intro f sp h
  unfold GB1 at h
  split at h
  · cases h; exact fn121
  · cases h
theorem v104 (a b : Int) (Φ : AV → List Ent → Prop) : wFunS te GB1 Try.f104 [(.int .i64 a), (.int .i64 b)] [] Φ = (C1I [(.int .i64 a)] ∧ (C1I [(.int .i64 b)] ∧ (ifB (!leI b a) (Φ (.int .i64 (-1)) []) (ifB (!leI a b) (Φ (.int .i64 1) []) (Φ (.int .i64 0) []))))) := by kernel_rfl
theorem fn104 : SpecSound Try.prog 104 (.fn CII g2I) := dat_soundS te_ok GB1_sound mixed isFun_104 (by
  rintro xs Φ ⟨hC, h⟩
  unfold CII at hC
  split at hC
  · rename_i a b
    have h' : Φ (.int .i64 (cmpI a b)) .none := h
    rw [v104]
    refine ⟨trivial, trivial, ?_⟩
    unfold cmpI at h'
    refine ifB_both (fun h1 => ?_) (fun h1 => ifB_both (fun h2 => ?_) (fun h2 => ?_))
    · rw [not_leI] at h1; rw [if_pos (of_decide_eq_true h1)] at h'; exact h'
    · rw [not_leI] at h1 h2; rw [if_neg (of_decide_eq_false h1), if_pos (of_decide_eq_true h2)] at h'; exact h'
    · rw [not_leI] at h1 h2; rw [if_neg (of_decide_eq_false h1), if_neg (of_decide_eq_false h2)] at h'; exact h'
  · cases hC)
def CCmB : List AV → Prop
  | [.agg [.int .i64 _, .sl 1 _ _], .int .i64 _] => True
  | _ => False
def GB2 : GE := fun f => match f with
  | 104 => some (.fn CII g2I)
  | _ => none
theorem GB2_sound : Sound Try.prog GB2 := by
  intro f sp h
  unfold GB2 at h
  split at h
  · cases h; exact fn104
  · cases h
theorem v103 (a : Int) (f : Bool) (d : List (List AV)) (k : Int) (Φ : AV → List Ent → Prop) : wFunS te GB2 Try.f103 [(.agg [(.int .i64 a), (.sl 1 f d)]), (.int .i64 k)] [] Φ = (CII [(.int .i64 a), (.int .i64 k)] ∧ (Φ (.int .i64 (cmpI a k)) [(.var [(.int .i64 a), (.sl 1 f d)])])) := by kernel_rfl
theorem fn103 : SpecSound Try.prog 103 (.fn CCmB gCmN) := dat_soundS te_ok GB2_sound mixed isFun_103 (by
  rintro xs Φ ⟨hC, h⟩
  unfold CCmB at hC
  split at hC
  · rw [v103]; exact ⟨trivial, h⟩
  · cases hC)
def GB3 : GE := fun f => match f with
  | 103 => some (.fn CCmB gCmN)
  | _ => none
theorem GB3_sound : Sound Try.prog GB3 := by
  intro f sp h
  unfold GB3 at h
  split at h
  · cases h; exact fn103
  · cases h
theorem v102 (fr : Bool) (es : List (List AV)) (s : Int) (Φ : AV → List Ent → Prop) : wFunS te GB3 Try.f102 [(.sl 2 fr es), (.int .i64 s), (.fn 103)] [] Φ = (wLoopS 0 (wCodeS te GB3 0 (bodyAt Try.f102 [false, false, false, true, true, true])) ⟨[(.sl 2 fr es), (.int .i64 s), (.fn 103), .junk, .junk, .junk, (.int .i64 0), (.bool false), (.int .i64 (es.length : Int)), (.int .i64 0), (.int .i64 (es.length : Int)), .junk, (.sl 2 fr es), (.int .i64 (es.length : Int)), (.int .i64 (es.length : Int)), .junk, .junk, .junk, .junk, .junk, .junk, .junk, .junk, .junk, .junk, .junk, .junk, .junk, .junk, .junk, .junk, .junk, .junk, .junk, .junk, .junk, .junk, .junk, .junk, .junk, .junk, .junk, .junk, .junk, .junk, .junk, .junk, .junk, .junk], []⟩ (blkQ 0 (seqQ (wCodeS te GB3 0 (bodyAt Try.f102 [false, false, false, false])) (endQ te Try.f102 Φ)))) := by kernel_rfl
def t102 (fr : Bool) (es : List (List AV)) (s i j : Int) : St := ⟨[(.sl 2 fr es), (.int .i64 s), (.fn 103), .junk, .junk, .junk, .junk, .junk, (.int .i64 (es.length : Int)), (.int .i64 i), (.int .i64 j), .junk, .junk, .junk, .junk, .junk, .junk, .junk, .junk, .junk, .junk, .junk, .junk, .junk, .junk, .junk, .junk, .junk, .junk, .junk, .junk, .junk, .junk, .junk, .junk, .junk, .junk, .junk, .junk, .junk, .junk, .junk, .junk, .junk, .junk, .junk, .junk, .junk, .junk], []⟩
def k102 : List Bool := [true, true, true, false, false, false, false, false, true, true, true, false, false, false, false, false, false, false, false, false, false, false, false, false, false, false, false, false, false, false, false, false, false, false, false, false, false, false, false, false, false, false, false, false, false, false, false, false, false]
theorem b102 (fr : Bool) (es : List (List AV)) (s i j : Int) (Q : KontX) : wCodeS te GB3 0 (bodyAt Try.f102 [false, false, false, true, true, true]) (t102 fr es s i j) Q = (ifB (!leI j i) ((0 ≤ (1 : Int)) ∧ ((0 ≤ (IntKind.i64.wrap (Int.fdiv (IntKind.u64.wrap (IntKind.i64.wrap (i + j))) (2 ^ (min (1 : Int).toNat IntKind.u64.bits)))) ∧ (IntKind.i64.wrap (Int.fdiv (IntKind.u64.wrap (IntKind.i64.wrap (i + j))) (2 ^ (min (1 : Int).toNat IntKind.u64.bits)))) < (es.length : Int)) ∧ (∃ n1, cellAt es (IntKind.i64.wrap (Int.fdiv (IntKind.u64.wrap (IntKind.i64.wrap (i + j))) (2 ^ (min (1 : Int).toNat IntKind.u64.bits)))).toNat 0 = (.int .i64 n1) ∧ ∃ r2, cellAt es (IntKind.i64.wrap (Int.fdiv (IntKind.u64.wrap (IntKind.i64.wrap (i + j))) (2 ^ (min (1 : Int).toNat IntKind.u64.bits)))).toNat 1 = (.sl 1 false r2) ∧ (CCmB [(.agg [(.int .i64 n1), (.sl 1 false r2)]), (.int .i64 s)] ∧ (ifB (!leI 0 (cmpI n1 s)) (Q .normal ⟨[(.sl 2 fr es), (.int .i64 s), (.fn 103), .junk, .junk, .junk, .junk, .junk, (.int .i64 (es.length : Int)), (.int .i64 (IntKind.i64.wrap ((IntKind.i64.wrap (Int.fdiv (IntKind.u64.wrap (IntKind.i64.wrap (i + j))) (2 ^ (min (1 : Int).toNat IntKind.u64.bits)))) + 1))), (.int .i64 j), (.int .i64 (IntKind.i64.wrap (Int.fdiv (IntKind.u64.wrap (IntKind.i64.wrap (i + j))) (2 ^ (min (1 : Int).toNat IntKind.u64.bits))))), .junk, .junk, .junk, (.int .i64 i), (.int .i64 j), (.bool (!leI j i)), (.int .i64 i), (.int .i64 j), (.int .i64 (IntKind.i64.wrap (i + j))), (.int .u64 (IntKind.u64.wrap (IntKind.i64.wrap (i + j)))), (.int .u64 (Int.fdiv (IntKind.u64.wrap (IntKind.i64.wrap (i + j))) (2 ^ (min (1 : Int).toNat IntKind.u64.bits)))), (.int .i64 (IntKind.i64.wrap (Int.fdiv (IntKind.u64.wrap (IntKind.i64.wrap (i + j))) (2 ^ (min (1 : Int).toNat IntKind.u64.bits))))), (.fn 103), (.sl 2 fr es), (.int .i64 (IntKind.i64.wrap (Int.fdiv (IntKind.u64.wrap (IntKind.i64.wrap (i + j))) (2 ^ (min (1 : Int).toNat IntKind.u64.bits))))), (.rptr 2 es (IntKind.i64.wrap (Int.fdiv (IntKind.u64.wrap (IntKind.i64.wrap (i + j))) (2 ^ (min (1 : Int).toNat IntKind.u64.bits)))).toNat 0), (.agg [(.int .i64 n1), (.sl 1 false r2)]), (.int .i64 s), (.int .i64 (cmpI n1 s)), (.bool (!leI 0 (cmpI n1 s))), (.int .i64 (IntKind.i64.wrap (Int.fdiv (IntKind.u64.wrap (IntKind.i64.wrap (i + j))) (2 ^ (min (1 : Int).toNat IntKind.u64.bits))))), (.int .i64 (IntKind.i64.wrap ((IntKind.i64.wrap (Int.fdiv (IntKind.u64.wrap (IntKind.i64.wrap (i + j))) (2 ^ (min (1 : Int).toNat IntKind.u64.bits)))) + 1))), .junk, .junk, .junk, .junk, .junk, .junk, .junk, .junk, .junk, .junk, .junk, .junk, .junk, .junk, .junk], []⟩) (Q .normal ⟨[(.sl 2 fr es), (.int .i64 s), (.fn 103), .junk, .junk, .junk, .junk, .junk, (.int .i64 (es.length : Int)), (.int .i64 i), (.int .i64 (IntKind.i64.wrap (Int.fdiv (IntKind.u64.wrap (IntKind.i64.wrap (i + j))) (2 ^ (min (1 : Int).toNat IntKind.u64.bits))))), (.int .i64 (IntKind.i64.wrap (Int.fdiv (IntKind.u64.wrap (IntKind.i64.wrap (i + j))) (2 ^ (min (1 : Int).toNat IntKind.u64.bits))))), .junk, .junk, .junk, (.int .i64 i), (.int .i64 j), (.bool (!leI j i)), (.int .i64 i), (.int .i64 j), (.int .i64 (IntKind.i64.wrap (i + j))), (.int .u64 (IntKind.u64.wrap (IntKind.i64.wrap (i + j)))), (.int .u64 (Int.fdiv (IntKind.u64.wrap (IntKind.i64.wrap (i + j))) (2 ^ (min (1 : Int).toNat IntKind.u64.bits)))), (.int .i64 (IntKind.i64.wrap (Int.fdiv (IntKind.u64.wrap (IntKind.i64.wrap (i + j))) (2 ^ (min (1 : Int).toNat IntKind.u64.bits))))), (.fn 103), (.sl 2 fr es), (.int .i64 (IntKind.i64.wrap (Int.fdiv (IntKind.u64.wrap (IntKind.i64.wrap (i + j))) (2 ^ (min (1 : Int).toNat IntKind.u64.bits))))), (.rptr 2 es (IntKind.i64.wrap (Int.fdiv (IntKind.u64.wrap (IntKind.i64.wrap (i + j))) (2 ^ (min (1 : Int).toNat IntKind.u64.bits)))).toNat 0), (.agg [(.int .i64 n1), (.sl 1 false r2)]), (.int .i64 s), (.int .i64 (cmpI n1 s)), (.bool (!leI 0 (cmpI n1 s))), .junk, .junk, (.int .i64 (IntKind.i64.wrap (Int.fdiv (IntKind.u64.wrap (IntKind.i64.wrap (i + j))) (2 ^ (min (1 : Int).toNat IntKind.u64.bits))))), .junk, .junk, .junk, .junk, .junk, .junk, .junk, .junk, .junk, .junk, .junk, .junk, .junk, .junk], []⟩)))))) (Q (.exit 0) ⟨[(.sl 2 fr es), (.int .i64 s), (.fn 103), .junk, .junk, .junk, .junk, .junk, (.int .i64 (es.length : Int)), (.int .i64 i), (.int .i64 j), .junk, .junk, .junk, .junk, (.int .i64 i), (.int .i64 j), (.bool (!leI j i)), .junk, .junk, .junk, .junk, .junk, .junk, .junk, .junk, .junk, .junk, .junk, .junk, .junk, .junk, .junk, .junk, .junk, .junk, .junk, .junk, .junk, .junk, .junk, .junk, .junk, .junk, .junk, .junk, .junk, .junk, .junk], []⟩)) := by kernel_rfl
theorem e102 (fr : Bool) (es : List (List AV)) (s i j : Int) {x3 x4 x5 x6 x7 x11 x12 x13 x14 x15 x16 x17 x18 x19 x20 x21 x22 x23 x24 x25 x26 x27 x28 x29 x30 x31 x32 x33 x34 x35 x36 x37 x38 x39 x40 x41 x42 x43 x44 x45 x46 x47 x48 : AV} (Φ : AV → List Ent → Prop) : wCodeS te GB3 0 (bodyAt Try.f102 [false, false, false, false]) ⟨[(.sl 2 fr es), (.int .i64 s), (.fn 103), x3, x4, x5, x6, x7, (.int .i64 (es.length : Int)), (.int .i64 i), (.int .i64 j), x11, x12, x13, x14, x15, x16, x17, x18, x19, x20, x21, x22, x23, x24, x25, x26, x27, x28, x29, x30, x31, x32, x33, x34, x35, x36, x37, x38, x39, x40, x41, x42, x43, x44, x45, x46, x47, x48], []⟩ (endQ te Try.f102 Φ) = (ifB (!leI (es.length : Int) i) ((0 ≤ i ∧ i < (es.length : Int)) ∧ (∃ n3, cellAt es i.toNat 0 = (.int .i64 n3) ∧ ∃ r4, cellAt es i.toNat 1 = (.sl 1 false r4) ∧ (CCmB [(.agg [(.int .i64 n3), (.sl 1 false r4)]), (.int .i64 s)] ∧ (Φ (.tup [(.int .i64 i), (.bool ((cmpI n3 s) == 0))]) [])))) (Φ (.tup [(.int .i64 i), (.bool false)]) [])) := by kernel_rfl
theorem blocks_mono {es : List (List AV)} (h : IsBlocks es) {s : Int} {a b : Nat} (hab : a ≤ b) (hb : b < es.length) (hs : inI es[b] < s) : inI (es[a]'(by omega)) < s := by
  rcases Nat.lt_or_ge a b with hlt | hge
  · exact Int.lt_trans (List.pairwise_iff_getElem.1 h.2.1 a b (by omega) hb hlt) hs
  · have : a = b := by omega
    subst this
    exact hs
def CBB : List AV → Prop
  | [.sl 2 _ es, .int .i64 _, .fn f] => IsBlocks es ∧ f = 103
  | _ => False
def gBB : List AV → AV
  | [.sl _ _ es, .int _ s, _] => .tup [.int .i64 (posI es s), .bool (fndI es s)]
  | _ => .junk
theorem s102 {fr : Bool} {es : List (List AV)} {s : Int} (hn : IsBlocks es) (Φ : AV → Ent → Prop) (h : Φ (.tup [.int .i64 (posI es s), .bool (fndI es s)]) .none) : wFunS te GB3 Try.f102 [.sl 2 fr es, .int .i64 s, .fn 103] [] (datFin Φ) := by
  have hl := hn.2.2
  rw [v102]
  refine ⟨fun n st => ∃ i j : Nat, j - i = n ∧ i ≤ j ∧ j ≤ es.length ∧ st = t102 fr es s i j ∧ (∀ k (hk : k < es.length), k < i → inI es[k] < s) ∧ (∀ k (hk : k < es.length), j ≤ k → ¬ inI es[k] < s),
    ⟨es.length, t102 fr es s (0 : Nat) es.length, ⟨0, es.length, by omega, by omega, Nat.le_refl _, rfl, fun k _ hk => by omega, fun k hk hk2 => by omega⟩, reT_to k102 0 rfl (by omega) rfl⟩, ?_⟩
  rintro n st ⟨i, j, hij, hle, hj, rfl, hlo, hhi⟩
  rw [b102]
  refine ifB_both (fun c1 => ?_) (fun c1 => ?_)
  · rw [not_leI] at c1
    have c1' := of_decide_eq_true c1
    have hm := mid_eq i j (by omega)
    rw [hm]
    have hmlt : (i + j) / 2 < es.length := by omega
    obtain ⟨a, d, hrow, q0, q1, _, _, _, _, htx⟩ := block_at hn hmlt
    refine ⟨by omega, by omega, a, by rw [Int.toNat_natCast]; exact q0, d, by rw [Int.toNat_natCast]; exact q1, trivial, ?_⟩
    rw [cmpI_lt]
    refine ifB_both (fun c2 => ?_) (fun c2 => ?_)
    · have c2' := of_decide_eq_true c2
      have hw : IntKind.i64.wrap ((((i + j) / 2 : Nat) : Int) + 1) = (((i + j) / 2 + 1 : Nat) : Int) := by rw [IntWalk.i64_in _ (by omega)]; omega
      rw [hw]
      refine ⟨j - ((i + j) / 2 + 1), t102 fr es s (((i + j) / 2 + 1 : Nat) : Int) j, by omega, ⟨(i + j) / 2 + 1, j, rfl, by omega, hj, rfl, fun k hk hki => ?_, hhi⟩, reT_to k102 0 rfl (by omega) rfl⟩
      exact blocks_mono hn (a := k) (b := (i + j) / 2) (by omega) hmlt (by rw [htx]; exact c2')
    · have c2' := of_decide_eq_false c2
      refine ⟨(i + j) / 2 - i, t102 fr es s i (((i + j) / 2 : Nat) : Int), by omega, ⟨i, (i + j) / 2, rfl, by omega, by omega, rfl, hlo, fun k hk hki hb => ?_⟩, reT_to k102 0 rfl (by omega) rfl⟩
      have := blocks_mono hn (a := (i + j) / 2) (b := k) hki hk hb
      rw [htx] at this
      exact c2' this
  · rw [not_leI] at c1
    have c1' := of_decide_eq_false c1
    have hij' : i = j := by omega
    subst hij'
    have hpos : posKI es s = i := while_len hj (fun k hk hki => decide_eq_true (hlo k hk hki)) (fun hk => decide_eq_false (hhi i hk (Nat.le_refl _)))
    have hposN : posI es s = (i : Int) := by unfold posI; rw [hpos]
    refine rs_exit ?_
    rw [e102]
    refine ifB_both (fun c2 => ?_) (fun c2 => ?_)
    · rw [not_leI] at c2
      have c2' := of_decide_eq_true c2
      have hilt : i < es.length := by omega
      obtain ⟨a, d, hrow, q0, q1, _, _, _, _, htx⟩ := block_at hn hilt
      refine ⟨by omega, a, by rw [Int.toNat_natCast]; exact q0, d, by rw [Int.toNat_natCast]; exact q1, trivial, ?_⟩
      have hlt : ¬ a < s := by rw [← htx]; exact hhi i hilt (Nat.le_refl _)
      rw [cmpI_eq a s hlt]
      have hf : fndI es s = (a == s) := by
        unfold fndI
        rw [hpos, List.getElem?_eq_getElem hilt]
        show (inI es[i] == s) = _
        rw [htx]
      rw [hposN, hf] at h
      exact h
    · rw [not_leI] at c2
      have c2' := of_decide_eq_false c2
      have hf : fndI es s = false := by
        unfold fndI
        rw [hpos, List.getElem?_eq_none (by omega)]
      rw [hposN, hf] at h
      exact h
theorem fn102 : SpecSound Try.prog 102 (.fn CBB gBB) := dat_soundS te_ok GB3_sound mixed isFun_102 (by
  rintro xs Φ ⟨hC, h⟩
  unfold CBB at hC
  split at hC
  · obtain ⟨h1, rfl⟩ := hC
    exact s102 h1 Φ h
  · cases hC)
def zB : List (List AV) := List.replicate 16 [.int .u8 0]
/-- A block's bytes. -/
def blkD (es : List (List AV)) (k : Int) : List (List AV) := if fndI es k = true then sI (es.getD (posKI es k) []) 1 else zB
def CBk : List AV → Prop
  | [.agg [.int .i64 _, .sl 2 _ es], .int .i64 _] => IsBlocks es
  | _ => False
def gBk : List AV → AV
  | [.agg [_, .sl _ _ es], .int _ k] => .tup [.sl 1 false (blkD es k), .bool (fndI es k)]
  | _ => .junk
theorem blkD_len {es : List (List AV)} (h : IsBlocks es) (k : Int) : (blkD es k).length = 16 ∧ ∀ x ∈ blkD es k, isByte x := by
  unfold blkD
  split
  · rename_i hf
    obtain ⟨a, d, he, _, _, hd, hy, _⟩ := block_at h (fndI_lt hf)
    rw [List.getD_eq_getElem?_getD, List.getElem?_eq_getElem (fndI_lt hf)]
    show (sI (es[posKI es k]'(fndI_lt hf)) 1).length = 16 ∧ ∀ x ∈ sI (es[posKI es k]'(fndI_lt hf)) 1, isByte x
    rw [he]
    exact ⟨hd, hy⟩
  · exact ⟨rfl, fun x hx => by rw [List.eq_of_mem_replicate hx]; rfl⟩
def GB4 : GE := fun f => match f with
  | 102 => some (.fn CBB gBB)
  | _ => none
theorem GB4_sound : Sound Try.prog GB4 := by
  intro f sp h
  unfold GB4 at h
  split at h
  · cases h; exact fn102
  · cases h
theorem v67 (z : Int) (fr : Bool) (es : List (List AV)) (k : Int) (Φ : AV → List Ent → Prop) : wFunS te GB4 Try.f67 [(.agg [(.int .i64 z), (.sl 2 fr es)]), (.int .i64 k)] [] Φ = (CBB [(.sl 2 false es), (.int .i64 k), (.fn 103)] ∧ (ifB (!(fndI es k)) (((16 : Int) = (16 : Int) ∧ 0 ≤ (16 : Int) ∧ (16 : Int) * 1 ≤ 140737488355328) ∧ (Φ (.tup [(.own 1 1 ((16 : Int)).toNat), (.bool false)]) [(.var [(.int .i64 z), (.sl 2 fr es)]), (.arr true 1 1 none (List.replicate ((16 : Int)).toNat [(.int .u8 0)]))])) ((0 ≤ (posI es k) ∧ (posI es k) < (es.length : Int)) ∧ (∃ r5, cellAt es (posI es k).toNat 1 = (.sl 1 false r5) ∧ (Φ (.tup [(.sl 1 false r5), (.bool true)]) [(.var [(.int .i64 z), (.sl 2 fr es)])]))))) := by kernel_rfl
theorem fn67 : SpecSound Try.prog 67 (.fn CBk gBk) := dat_soundS te_ok GB4_sound mixed isFun_67 (by
  rintro xs Φ ⟨hC, h⟩
  unfold CBk at hC
  split at hC
  · rename_i z fr es k
    rw [v67]
    have h' : Φ (.tup [.sl 1 false (blkD es k), .bool (fndI es k)]) .none := h
    refine ⟨⟨hC, rfl⟩, ifB_both (fun c1 => ?_) (fun c1 => ?_)⟩
    · have hf : fndI es k = false := by simpa using c1
      have hr : blkD es k = zB := by unfold blkD; rw [if_neg (by rw [hf]; decide)]
      rw [hf, hr] at h'
      exact ⟨by omega, ⟨rfl, rfl⟩, h'⟩
    · have hf : fndI es k = true := by simpa using c1
      have hlt := fndI_lt hf
      obtain ⟨a, d, he, q0, q1, _⟩ := block_at hC hlt
      have hr : blkD es k = d := by
        unfold blkD
        rw [if_pos hf, List.getD_eq_getElem?_getD, List.getElem?_eq_getElem hlt]
        show sI es[posKI es k] 1 = d
        rw [he]; rfl
      have hp : posI es k = (posKI es k : Int) := rfl
      rw [hp]
      refine ⟨by omega, d, by rw [Int.toNat_natCast]; exact q1, ?_⟩
      rw [hf, hr] at h'
      exact h'
  · cases hC)
def GB5 : GE := fun f => match f with
  | 67 => some (.fn CBk gBk)
  | _ => none
theorem GB5_sound : Sound Try.prog GB5 := by
  intro f sp h
  unfold GB5 at h
  split at h
  · cases h; exact fn67
  · cases h
theorem v52 (z : Int) (fr : Bool) (es : List (List AV)) (p n : Int) (Φ : AV → List Ent → Prop) : wFunS te GB5 Try.f52 [(.agg [(.int .i64 z), (.sl 2 fr es)]), (.int .i64 p), (.int .i64 n)] [] Φ = (wLoopS 0 (wCodeS te GB5 0 (bodyAt Try.f52 [false, false, true, false, true, true])) ⟨[(.agg [(.int .i64 z), (.sl 2 fr es)]), (.int .i64 p), (.int .i64 n), (.ptr 0 0), .junk, .junk, (.sl 0 true ([] : List (List AV))), (.sl 0 true ([] : List (List AV))), (.int .i64 p), .junk, .junk, .junk, .junk, (.int .i64 p), .junk, .junk, .junk, .junk, .junk, .junk, .junk, .junk, .junk, .junk, .junk, .junk, .junk, .junk, .junk, .junk, .junk, .junk, .junk, .junk, .junk, .junk, .junk, .junk, .junk, .junk, .junk, .junk, .junk, .junk, .junk, .junk, .junk, .junk, .junk, .junk, .junk, .junk, .junk, .junk], [(.var [(.int .i64 z), (.sl 2 fr es)])]⟩ (blkQ 0 (seqQ (wCodeS te GB5 0 (bodyAt Try.f52 [false, false, false])) (endQ te Try.f52 Φ)))) := by kernel_rfl
def t52 (z : Int) (fr : Bool) (bl : List (List AV)) (p n : Int) (v m : Nat) (es : List (List AV)) (i : Int) : St := ⟨[.junk, (.int .i64 p), (.int .i64 n), (.ptr 0 0), .junk, .junk, .junk, (.own 1 v m), (.int .i64 i), .junk, .junk, .junk, .junk, .junk, .junk, .junk, .junk, .junk, .junk, .junk, .junk, .junk, .junk, .junk, .junk, .junk, .junk, .junk, .junk, .junk, .junk, .junk, .junk, .junk, .junk, .junk, .junk, .junk, .junk, .junk, .junk, .junk, .junk, .junk, .junk, .junk, .junk, .junk, .junk, .junk, .junk, .junk, .junk, .junk], [(.var [(.int .i64 z), (.sl 2 fr bl)]), (.arr true v 1 none es)]⟩
def k52 : List Bool := [false, true, true, true, false, false, false, true, true, false, false, false, false, false, false, false, false, false, false, false, false, false, false, false, false, false, false, false, false, false, false, false, false, false, false, false, false, false, false, false, false, false, false, false, false, false, false, false, false, false, false, false, false, false]
theorem b52 (z : Int) (fr : Bool) (bl : List (List AV)) (p n : Int) (v m : Nat) (es : List (List AV)) (i : Int) (Q : KontX) : wCodeS te GB5 0 (bodyAt Try.f52 [false, false, true, false, true, true]) (t52 z fr bl p n v m es i) Q = (ifB (!leI (if z < (IntKind.i64.wrap (p + n)) then z else (IntKind.i64.wrap (p + n))) i) ((16 ≠ (0 : Int)) ∧ (CBk [(.agg [(.int .i64 z), (.sl 2 false bl)]), (.int .i64 (IntKind.i64.wrap (Int.tdiv i 16)))] ∧ ((16 ≠ (0 : Int)) ∧ ((0 ≤ (Int.tmod i 16) ∧ (Int.tmod i 16) ≤ (IntKind.i64.wrap ((Int.tmod i 16) + (if (IntKind.i64.wrap ((if z < (IntKind.i64.wrap (p + n)) then z else (IntKind.i64.wrap (p + n))) - i)) < (IntKind.i64.wrap (16 - (Int.tmod i 16))) then (IntKind.i64.wrap ((if z < (IntKind.i64.wrap (p + n)) then z else (IntKind.i64.wrap (p + n))) - i)) else (IntKind.i64.wrap (16 - (Int.tmod i 16)))))) ∧ (IntKind.i64.wrap ((Int.tmod i 16) + (if (IntKind.i64.wrap ((if z < (IntKind.i64.wrap (p + n)) then z else (IntKind.i64.wrap (p + n))) - i)) < (IntKind.i64.wrap (16 - (Int.tmod i 16))) then (IntKind.i64.wrap ((if z < (IntKind.i64.wrap (p + n)) then z else (IntKind.i64.wrap (p + n))) - i)) else (IntKind.i64.wrap (16 - (Int.tmod i 16)))))) ≤ ((blkD bl (IntKind.i64.wrap (Int.tdiv i 16))).length : Int)) ∧ ((fits 1 1 (List.take (((IntKind.i64.wrap ((Int.tmod i 16) + (if (IntKind.i64.wrap ((if z < (IntKind.i64.wrap (p + n)) then z else (IntKind.i64.wrap (p + n))) - i)) < (IntKind.i64.wrap (16 - (Int.tmod i 16))) then (IntKind.i64.wrap ((if z < (IntKind.i64.wrap (p + n)) then z else (IntKind.i64.wrap (p + n))) - i)) else (IntKind.i64.wrap (16 - (Int.tmod i 16))))))).toNat - ((Int.tmod i 16)).toNat) (List.drop ((Int.tmod i 16)).toNat (blkD bl (IntKind.i64.wrap (Int.tdiv i 16))))) = true ∧ v = v ∧ m = es.length ∧ room (es.length + (List.take (((IntKind.i64.wrap ((Int.tmod i 16) + (if (IntKind.i64.wrap ((if z < (IntKind.i64.wrap (p + n)) then z else (IntKind.i64.wrap (p + n))) - i)) < (IntKind.i64.wrap (16 - (Int.tmod i 16))) then (IntKind.i64.wrap ((if z < (IntKind.i64.wrap (p + n)) then z else (IntKind.i64.wrap (p + n))) - i)) else (IntKind.i64.wrap (16 - (Int.tmod i 16))))))).toNat - ((Int.tmod i 16)).toNat) (List.drop ((Int.tmod i 16)).toNat (blkD bl (IntKind.i64.wrap (Int.tdiv i 16))))).length) 1) ∧ (Q .normal ⟨[.junk, (.int .i64 p), (.int .i64 n), (.ptr 0 0), .junk, .junk, .junk, (.own 1 (v + 1) (es.length + (List.take (((IntKind.i64.wrap ((Int.tmod i 16) + (if (IntKind.i64.wrap ((if z < (IntKind.i64.wrap (p + n)) then z else (IntKind.i64.wrap (p + n))) - i)) < (IntKind.i64.wrap (16 - (Int.tmod i 16))) then (IntKind.i64.wrap ((if z < (IntKind.i64.wrap (p + n)) then z else (IntKind.i64.wrap (p + n))) - i)) else (IntKind.i64.wrap (16 - (Int.tmod i 16))))))).toNat - ((Int.tmod i 16)).toNat) (List.drop ((Int.tmod i 16)).toNat (blkD bl (IntKind.i64.wrap (Int.tdiv i 16))))).length)), (.int .i64 (IntKind.i64.wrap (i + (if (IntKind.i64.wrap ((if z < (IntKind.i64.wrap (p + n)) then z else (IntKind.i64.wrap (p + n))) - i)) < (IntKind.i64.wrap (16 - (Int.tmod i 16))) then (IntKind.i64.wrap ((if z < (IntKind.i64.wrap (p + n)) then z else (IntKind.i64.wrap (p + n))) - i)) else (IntKind.i64.wrap (16 - (Int.tmod i 16))))))), (.sl 1 false (blkD bl (IntKind.i64.wrap (Int.tdiv i 16)))), (.bool (fndI bl (IntKind.i64.wrap (Int.tdiv i 16)))), (.int .i64 (Int.tmod i 16)), (.int .i64 (if (IntKind.i64.wrap ((if z < (IntKind.i64.wrap (p + n)) then z else (IntKind.i64.wrap (p + n))) - i)) < (IntKind.i64.wrap (16 - (Int.tmod i 16))) then (IntKind.i64.wrap ((if z < (IntKind.i64.wrap (p + n)) then z else (IntKind.i64.wrap (p + n))) - i)) else (IntKind.i64.wrap (16 - (Int.tmod i 16))))), .junk, (.int .i64 i), (.int .i64 p), (.int .i64 n), (.int .i64 (IntKind.i64.wrap (p + n))), (.ptr 0 0), (.int .i64 z), (.int .i64 (if z < (IntKind.i64.wrap (p + n)) then z else (IntKind.i64.wrap (p + n)))), (.bool (!leI (if z < (IntKind.i64.wrap (p + n)) then z else (IntKind.i64.wrap (p + n))) i)), (.tup [(.sl 1 false (blkD bl (IntKind.i64.wrap (Int.tdiv i 16)))), (.bool (fndI bl (IntKind.i64.wrap (Int.tdiv i 16))))]), (.agg [(.int .i64 z), (.sl 2 fr bl)]), (.int .i64 i), (.int .i64 (IntKind.i64.wrap (Int.tdiv i 16))), (.tup [(.sl 1 false (blkD bl (IntKind.i64.wrap (Int.tdiv i 16)))), (.bool (fndI bl (IntKind.i64.wrap (Int.tdiv i 16))))]), (.sl 1 false (blkD bl (IntKind.i64.wrap (Int.tdiv i 16)))), (.bool (fndI bl (IntKind.i64.wrap (Int.tdiv i 16)))), (.int .i64 i), (.int .i64 (Int.tmod i 16)), (.int .i64 (Int.tmod i 16)), (.int .i64 (IntKind.i64.wrap (16 - (Int.tmod i 16)))), (.int .i64 p), (.int .i64 n), (.int .i64 (IntKind.i64.wrap (p + n))), (.ptr 0 0), (.int .i64 z), (.int .i64 (if z < (IntKind.i64.wrap (p + n)) then z else (IntKind.i64.wrap (p + n)))), (.int .i64 i), (.int .i64 (IntKind.i64.wrap ((if z < (IntKind.i64.wrap (p + n)) then z else (IntKind.i64.wrap (p + n))) - i))), (.int .i64 (if (IntKind.i64.wrap ((if z < (IntKind.i64.wrap (p + n)) then z else (IntKind.i64.wrap (p + n))) - i)) < (IntKind.i64.wrap (16 - (Int.tmod i 16))) then (IntKind.i64.wrap ((if z < (IntKind.i64.wrap (p + n)) then z else (IntKind.i64.wrap (p + n))) - i)) else (IntKind.i64.wrap (16 - (Int.tmod i 16))))), (.own 1 v m), (.sl 1 false (blkD bl (IntKind.i64.wrap (Int.tdiv i 16)))), (.int .i64 (Int.tmod i 16)), (.int .i64 (Int.tmod i 16)), (.int .i64 (if (IntKind.i64.wrap ((if z < (IntKind.i64.wrap (p + n)) then z else (IntKind.i64.wrap (p + n))) - i)) < (IntKind.i64.wrap (16 - (Int.tmod i 16))) then (IntKind.i64.wrap ((if z < (IntKind.i64.wrap (p + n)) then z else (IntKind.i64.wrap (p + n))) - i)) else (IntKind.i64.wrap (16 - (Int.tmod i 16))))), (.int .i64 (IntKind.i64.wrap ((Int.tmod i 16) + (if (IntKind.i64.wrap ((if z < (IntKind.i64.wrap (p + n)) then z else (IntKind.i64.wrap (p + n))) - i)) < (IntKind.i64.wrap (16 - (Int.tmod i 16))) then (IntKind.i64.wrap ((if z < (IntKind.i64.wrap (p + n)) then z else (IntKind.i64.wrap (p + n))) - i)) else (IntKind.i64.wrap (16 - (Int.tmod i 16))))))), (.sl 1 false (List.take (((IntKind.i64.wrap ((Int.tmod i 16) + (if (IntKind.i64.wrap ((if z < (IntKind.i64.wrap (p + n)) then z else (IntKind.i64.wrap (p + n))) - i)) < (IntKind.i64.wrap (16 - (Int.tmod i 16))) then (IntKind.i64.wrap ((if z < (IntKind.i64.wrap (p + n)) then z else (IntKind.i64.wrap (p + n))) - i)) else (IntKind.i64.wrap (16 - (Int.tmod i 16))))))).toNat - ((Int.tmod i 16)).toNat) (List.drop ((Int.tmod i 16)).toNat (blkD bl (IntKind.i64.wrap (Int.tdiv i 16)))))), (.own 1 (v + 1) (es.length + (List.take (((IntKind.i64.wrap ((Int.tmod i 16) + (if (IntKind.i64.wrap ((if z < (IntKind.i64.wrap (p + n)) then z else (IntKind.i64.wrap (p + n))) - i)) < (IntKind.i64.wrap (16 - (Int.tmod i 16))) then (IntKind.i64.wrap ((if z < (IntKind.i64.wrap (p + n)) then z else (IntKind.i64.wrap (p + n))) - i)) else (IntKind.i64.wrap (16 - (Int.tmod i 16))))))).toNat - ((Int.tmod i 16)).toNat) (List.drop ((Int.tmod i 16)).toNat (blkD bl (IntKind.i64.wrap (Int.tdiv i 16))))).length)), (.int .i64 i), (.int .i64 (if (IntKind.i64.wrap ((if z < (IntKind.i64.wrap (p + n)) then z else (IntKind.i64.wrap (p + n))) - i)) < (IntKind.i64.wrap (16 - (Int.tmod i 16))) then (IntKind.i64.wrap ((if z < (IntKind.i64.wrap (p + n)) then z else (IntKind.i64.wrap (p + n))) - i)) else (IntKind.i64.wrap (16 - (Int.tmod i 16))))), (.int .i64 (IntKind.i64.wrap (i + (if (IntKind.i64.wrap ((if z < (IntKind.i64.wrap (p + n)) then z else (IntKind.i64.wrap (p + n))) - i)) < (IntKind.i64.wrap (16 - (Int.tmod i 16))) then (IntKind.i64.wrap ((if z < (IntKind.i64.wrap (p + n)) then z else (IntKind.i64.wrap (p + n))) - i)) else (IntKind.i64.wrap (16 - (Int.tmod i 16))))))), .junk], [(.var [(.int .i64 z), (.sl 2 fr bl)]), (.arr true (v + 1) 1 none (es ++ (List.take (((IntKind.i64.wrap ((Int.tmod i 16) + (if (IntKind.i64.wrap ((if z < (IntKind.i64.wrap (p + n)) then z else (IntKind.i64.wrap (p + n))) - i)) < (IntKind.i64.wrap (16 - (Int.tmod i 16))) then (IntKind.i64.wrap ((if z < (IntKind.i64.wrap (p + n)) then z else (IntKind.i64.wrap (p + n))) - i)) else (IntKind.i64.wrap (16 - (Int.tmod i 16))))))).toNat - ((Int.tmod i 16)).toNat) (List.drop ((Int.tmod i 16)).toNat (blkD bl (IntKind.i64.wrap (Int.tdiv i 16)))))))]⟩)))))) (Q (.exit 0) ⟨[.junk, (.int .i64 p), (.int .i64 n), (.ptr 0 0), .junk, .junk, .junk, (.own 1 v m), (.int .i64 i), .junk, .junk, .junk, .junk, .junk, (.int .i64 i), (.int .i64 p), (.int .i64 n), (.int .i64 (IntKind.i64.wrap (p + n))), (.ptr 0 0), (.int .i64 z), (.int .i64 (if z < (IntKind.i64.wrap (p + n)) then z else (IntKind.i64.wrap (p + n)))), (.bool (!leI (if z < (IntKind.i64.wrap (p + n)) then z else (IntKind.i64.wrap (p + n))) i)), .junk, .junk, .junk, .junk, .junk, .junk, .junk, .junk, .junk, .junk, .junk, .junk, .junk, .junk, .junk, .junk, .junk, .junk, .junk, .junk, .junk, .junk, .junk, .junk, .junk, .junk, .junk, .junk, .junk, .junk, .junk, .junk], [(.var [(.int .i64 z), (.sl 2 fr bl)]), (.arr true v 1 none es)]⟩)) := by kernel_rfl
theorem e52 (z : Int) (fr : Bool) (bl : List (List AV)) (v m : Nat) (es : List (List AV)) {x0 x1 x2 x3 x4 x5 x6 x8 x9 x10 x11 x12 x13 x14 x15 x16 x17 x18 x19 x20 x21 x22 x23 x24 x25 x26 x27 x28 x29 x30 x31 x32 x33 x34 x35 x36 x37 x38 x39 x40 x41 x42 x43 x44 x45 x46 x47 x48 x49 x50 x51 x52 x53 : AV} (Φ : AV → List Ent → Prop) : wCodeS te GB5 0 (bodyAt Try.f52 [false, false, false]) ⟨[x0, x1, x2, x3, x4, x5, x6, (.own 1 v m), x8, x9, x10, x11, x12, x13, x14, x15, x16, x17, x18, x19, x20, x21, x22, x23, x24, x25, x26, x27, x28, x29, x30, x31, x32, x33, x34, x35, x36, x37, x38, x39, x40, x41, x42, x43, x44, x45, x46, x47, x48, x49, x50, x51, x52, x53], [(.var [(.int .i64 z), (.sl 2 fr bl)]), (.arr true v 1 none es)]⟩ (endQ te Try.f52 Φ) = (Φ (.own 1 v m) [(.var [(.int .i64 z), (.sl 2 fr bl)]), (.arr true v 1 none es)]) := by kernel_rfl
def t52z (z : Int) (fr : Bool) (bl : List (List AV)) (p n : Int) (i : Int) : St := ⟨[.junk, (.int .i64 p), (.int .i64 n), (.ptr 0 0), .junk, .junk, .junk, (.sl 0 true ([] : List (List AV))), (.int .i64 i), .junk, .junk, .junk, .junk, .junk, .junk, .junk, .junk, .junk, .junk, .junk, .junk, .junk, .junk, .junk, .junk, .junk, .junk, .junk, .junk, .junk, .junk, .junk, .junk, .junk, .junk, .junk, .junk, .junk, .junk, .junk, .junk, .junk, .junk, .junk, .junk, .junk, .junk, .junk, .junk, .junk, .junk, .junk, .junk, .junk], [(.var [(.int .i64 z), (.sl 2 fr bl)])]⟩
/-- A byte of a file. -/
def byteR (bl : List (List AV)) (i : Nat) : List AV := (blkD bl ((i / 16 : Nat) : Int)).getD (i % 16) [.int .u8 0]
/-- Some of a file's bytes. -/
def readR (bl : List (List AV)) (z p n : Int) : List (List AV) := (List.range' p.toNat ((if z < p + n then z else p + n) - p).toNat).map (byteR bl)
def CRd : List AV → Prop
  | [.agg [.int .i64 z, .sl 2 _ bl], .int .i64 p, .int .i64 n] => IsBlocks bl ∧ 0 ≤ p ∧ p ≤ 1000000 ∧ 0 ≤ n ∧ n ≤ 1000000
  | _ => False
def gRd : List AV → AV
  | [.agg [.int _ z, .sl _ _ bl], .int _ p, .int _ n] => .sl 1 false (readR bl z p n)
  | _ => .junk
theorem chunk {bl : List (List AV)} (h : IsBlocks bl) (i k : Nat) (hk : i % 16 + k ≤ 16) : ((blkD bl ((i / 16 : Nat) : Int)).drop (i % 16)).take k = (List.range' i k).map (byteR bl) := by
  have hl := (blkD_len h ((i / 16 : Nat) : Int)).1
  apply List.ext_getElem
  · rw [List.length_take, List.length_drop, hl, List.length_map, List.length_range']; omega
  · intro j h1 h2
    simp at h2
    have e1 : (i + j) / 16 = i / 16 := by omega
    have e2 : (i + j) % 16 = i % 16 + j := by omega
    simp only [List.getElem_take, List.getElem_drop, List.getElem_map, List.getElem_range', byteR]
    rw [show i + 1 * j = i + j from by omega, e1, e2, List.getD_eq_getElem?_getD, List.getElem?_eq_getElem (by omega)]
    rfl
theorem t139_z (z : Int) (fr : Bool) (bl : List (List AV)) (p n i : Int) : ReT 0 (t52z z fr bl p n i) (t52 z fr bl p n 1 0 [] i) := reT_adopt 7 0 1 rfl (by omega)
theorem ifB_f {A B : Prop} (h : B) : ifB false A B := h
theorem ifB_t {A B : Prop} (h : A) : ifB true A B := h
theorem a52 (q k m : Nat) (hkm : k < m) (hq : q ≤ 1000000) (hm : m ≤ 1000000) : ∃ c : Nat, 1 ≤ c ∧ k + c ≤ m ∧ (q + k) % 16 + c ≤ 16 ∧
    IntKind.i64.wrap (Int.tdiv ((q + k : Nat) : Int) 16) = (((q + k) / 16 : Nat) : Int) ∧ Int.tmod ((q + k : Nat) : Int) 16 = (((q + k) % 16 : Nat) : Int) ∧
    (if IntKind.i64.wrap (((q + m : Nat) : Int) - ((q + k : Nat) : Int)) < IntKind.i64.wrap (16 - (((q + k) % 16 : Nat) : Int)) then IntKind.i64.wrap (((q + m : Nat) : Int) - ((q + k : Nat) : Int)) else IntKind.i64.wrap (16 - (((q + k) % 16 : Nat) : Int))) = (c : Int) ∧
    IntKind.i64.wrap ((((q + k) % 16 : Nat) : Int) + (c : Int)) = (((q + k) % 16 + c : Nat) : Int) ∧ IntKind.i64.wrap (((q + k : Nat) : Int) + (c : Int)) = ((q + (k + c) : Nat) : Int) := by
  have w1 : IntKind.i64.wrap (16 - (((q + k) % 16 : Nat) : Int)) = ((16 - (q + k) % 16 : Nat) : Int) := by rw [IntWalk.i64_in _ (by omega)]; omega
  have w2 : IntKind.i64.wrap (((q + m : Nat) : Int) - ((q + k : Nat) : Int)) = ((m - k : Nat) : Int) := by rw [IntWalk.i64_in _ (by omega)]; omega
  refine ⟨min (16 - (q + k) % 16) (m - k), by omega, by omega, by omega, ?_, rfl, ?_, ?_, ?_⟩
  · have : Int.tdiv ((q + k : Nat) : Int) 16 = (((q + k) / 16 : Nat) : Int) := rfl
    rw [this, IntWalk.i64_in _ (by omega)]
  · rw [w1, w2]; split <;> omega
  · rw [IntWalk.i64_in _ (by omega)]; omega
  · rw [IntWalk.i64_in _ (by omega)]; omega
def I52 (z : Int) (fr : Bool) (bl : List (List AV)) (q m : Nat) (n : Int) : Nat → St → Prop :=
  fun r st => ∃ (k v : Nat), k + r = m ∧ st = t52 z fr bl q n v k ((List.range' q k).map (byteR bl)) ((q + k : Nat) : Int)
theorem step52 {z : Int} {fr : Bool} {bl : List (List AV)} {q : Nat} {n : Int} (hb : IsBlocks bl) (hq : q ≤ 1000000) {m : Nat} (hml : m ≤ 1000000) (hpn : IntKind.i64.wrap ((q : Int) + n) = (q : Int) + n)
    (hM : (if z < (q : Int) + n then z else (q : Int) + n) = ((q + m : Nat) : Int)) {r k v : Nat} (hk : k + r = m) (hkm : k < m) (Q : KontX) :
    wCodeS te GB5 0 (bodyAt Try.f52 [false, false, true, false, true, true]) (t52 z fr bl q n v k ((List.range' q k).map (byteR bl)) ((q + k : Nat) : Int)) (roundS 0 (I52 z fr bl q m n) r Q) := by
  obtain ⟨c, h1, h2, h3, w1, w2, w3, w4, w5⟩ := a52 q k m hkm hq hml
  have hlen := (blkD_len hb (((q + k) / 16 : Nat) : Int)).1
  have hch := chunk hb (q + k) c h3
  have e1 : ((((q + k) % 16 + c : Nat) : Int)).toNat - ((((q + k) % 16 : Nat) : Int)).toNat = c := by omega
  have e2 : ((((q + k) % 16 : Nat) : Int)).toNat = (q + k) % 16 := by omega
  have hcat : (List.range' q k).map (byteR bl) ++ (List.range' (q + k) c).map (byteR bl) = (List.range' q (k + c)).map (byteR bl) := by
    rw [← List.map_append, List.range'_append_1]
  have hcl : ((List.range' (q + k) c).map (byteR bl)).length = c := by simp
  have hkl : ((List.range' q k).map (byteR bl)).length = k := by simp
  rw [b52, hpn, hM, w1, w2, w3, w4, w5, e1, e2, hch]
  have c1 : (!leI ((q + m : Nat) : Int) ((q + k : Nat) : Int)) = true := by rw [not_leI]; exact decide_eq_true (by omega)
  rw [c1]
  refine ⟨by omega, hb, by omega, by rw [hlen]; omega, ⟨fits_any 1 _, rfl, hkl.symm, by unfold room; rw [hkl, hcl]; omega⟩, r - c, t52 z fr bl q n (v + 1) (k + c) ((List.range' q (k + c)).map (byteR bl)) ((q + (k + c) : Nat) : Int), by omega, ⟨k + c, v + 1, by omega, rfl⟩, ?_⟩
  rw [← hcat, hkl, hcl]
  exact reT_to k52 2 rfl (by omega) rfl
theorem s52 {z : Int} {fr : Bool} {bl : List (List AV)} {p n : Int} (hb : IsBlocks bl) (hp0 : 0 ≤ p) (hp1 : p ≤ 1000000) (hn0 : 0 ≤ n) (hn1 : n ≤ 1000000) (Φ : AV → Ent → Prop)
    (h : Φ (.sl 1 false (readR bl z p n)) .none) : wFunS te GB5 Try.f52 [.agg [.int .i64 z, .sl 2 fr bl], .int .i64 p, .int .i64 n] [] (datFin Φ) := by
  rw [v52]
  obtain ⟨q, hq⟩ : ∃ q : Nat, p = q := ⟨p.toNat, by omega⟩
  subst hq
  have hrd : readR bl z q n = (List.range' q ((if z < (q : Int) + n then z else (q : Int) + n) - q).toNat).map (byteR bl) := rfl
  have hM2 : (if z < (q : Int) + n then z else (q : Int) + n) ≤ (q : Int) + n := by split <;> omega
  have hpn : IntKind.i64.wrap ((q : Int) + n) = (q : Int) + n := by rw [IntWalk.i64_in _ (by omega)]
  obtain ⟨m, hm⟩ : ∃ m : Nat, m = ((if z < (q : Int) + n then z else (q : Int) + n) - q).toNat := ⟨_, rfl⟩
  rw [hrd, ← hm] at h
  have hml : m ≤ 1000000 := by omega
  refine ⟨I52 z fr bl q m n, ⟨m, t52 z fr bl q n 1 0 [] (q : Nat), ⟨0, 1, by omega, rfl⟩, (reT_to (s' := t52z z fr bl q n q) k52 1 rfl (by omega) rfl).trans (t139_z z fr bl q n q)⟩, ?_⟩
  rintro r st ⟨k, v, hk, rfl⟩
  rcases Nat.lt_or_ge k m with hkm | hkm
  · exact step52 hb (by omega) hml hpn (by omega) hk hkm _
  · have hkm' : k = m := by omega
    have c1 : (!leI (if z < (q : Int) + n then z else (q : Int) + n) ((q + k : Nat) : Int)) = false := by rw [not_leI]; exact decide_eq_false (by omega)
    rw [b52, hpn, c1]
    subst hkm'
    refine ifB_f (rs_exit ?_)
    rw [e52]
    exact ⟨⟨rfl, by simp⟩, h⟩
theorem fn52 : SpecSound Try.prog 52 (.fn CRd gRd) := dat_soundS te_ok GB5_sound mixed isFun_52 (by
  rintro xs Φ ⟨hC, h⟩
  unfold CRd at hC
  split at hC
  · obtain ⟨h1, h2, h3, h4, h5⟩ := hC
    exact s52 h1 h2 h3 h4 h5 Φ h
  · cases hC)
theorem v39 (a : Int) (Φ : AV → List Ent → Prop) : wFunS te nGE' Try.f39 [(.int .i64 a)] [] Φ = (ifB (leI 0 a) (Φ (.bool (leI a 32768)) []) (Φ (.bool false) [])) := by kernel_rfl
def inK (a : Int) : Bool := decide (0 ≤ a ∧ a ≤ 32768)
def gIn : List AV → AV
  | [.int _ a] => .bool (inK a)
  | _ => .junk
theorem leI_dec (a b : Int) : leI a b = decide (a ≤ b) := by
  have := not_leI b a
  cases hb : leI a b <;> rw [hb] at this
  · have h2 := of_decide_eq_true this.symm
    exact (decide_eq_false (by omega)).symm
  · have h2 := of_decide_eq_false this.symm
    exact (decide_eq_true (by omega)).symm
theorem fn39 : SpecSound Try.prog 39 (.fn C1I gIn) := dat_soundS te_ok nGE'_sound mixed isFun_39 (by
  rintro xs Φ ⟨hC, h⟩
  unfold C1I at hC
  split at hC
  · rename_i a
    rw [v39]
    have h' : Φ (.bool (inK a)) .none := h
    unfold inK at h'
    refine ifB_both (fun c1 => ?_) (fun c1 => ?_)
    · rw [leI_dec] at c1
      have := of_decide_eq_true c1
      show Φ (.bool (leI a 32768)) .none
      rw [leI_dec]
      rw [show decide (a ≤ 32768) = decide (0 ≤ a ∧ a ≤ 32768) from by simp [this]]
      exact h'
    · rw [leI_dec] at c1
      have := of_decide_eq_false c1
      rw [decide_eq_false (by omega)] at h'
      exact h'
  · cases hC)
/-- A file's error. -/
def fileE (es : List (List AV)) (k : Int) : Int := if nI (rowI es k) 1 = 2 then 5 else if nI (rowI es k) 1 = 3 then 1 else 0
def gKF : List AV → AV
  | [.agg [_, _, _, .sl _ _ es], .int _ k] => .tup [.agg [.int .i64 (nI (rowI es k) 0), .int .i64 (nI (rowI es k) 1), .int .i64 (nI (rowI es k) 2), .int .i64 (nI (rowI es k) 3), .int .i64 (nI (rowI es k) 4), .sl 2 false (sI (rowI es k) 5), .str (bI (rowI es k)), .sl 2 false (sI (rowI es k) 7)], .int .i64 (fileE es k)]
  | _ => .junk
/-- What is told of a node. -/
def infoR (es : List (List AV)) (k : Int) : List AV := if fndI es k = true then [.int .i64 (nI (rowI es k) 0), .int .i64 (nI (rowI es k) 1), .int .i64 (nI (rowI es k) 2), .int .i64 (nI (rowI es k) 3), .int .i64 (IntKind.i64.wrap (IntKind.i64.wrap (nI (rowI es k) 4 + ((bI (rowI es k)).size : Int)) + ((sI (rowI es k) 7).length : Int)))]
  else [.int .i64 0, .int .i64 0, .int .i64 0, .int .i64 0, .int .i64 0]
def gInfo : List AV → AV
  | [.agg [_, _, _, .sl _ _ es], .int _ k] => .agg (infoR es k)
  | _ => .junk
def GB6 : GE := fun f => match f with
  | 43 => some (.fn CPN gGet')
  | _ => none
theorem GB6_sound : Sound Try.prog GB6 := by
  intro f sp h
  unfold GB6 at h
  split at h
  · cases h; exact fn43'
  · cases h
theorem v38 (a b c : Int) (fr : Bool) (es : List (List AV)) (k : Int) (Φ : AV → List Ent → Prop) : wFunS te GB6 Try.f38 [(.agg [(.int .i64 a), (.int .i64 b), (.int .i64 c), (.sl 8 fr es)]), (.int .i64 k)] [] Φ = (CPN [(.agg [(.int .i64 a), (.int .i64 b), (.int .i64 c), (.sl 8 false es)]), (.int .i64 k)] ∧ (ifB ((nI (rowI es k) 1) == 2) (Φ (.tup [(.agg [(.int .i64 (nI (rowI es k) 0)), (.int .i64 (nI (rowI es k) 1)), (.int .i64 (nI (rowI es k) 2)), (.int .i64 (nI (rowI es k) 3)), (.int .i64 (nI (rowI es k) 4)), (.sl 2 false (sI (rowI es k) 5)), (.str (bI (rowI es k))), (.sl 2 false (sI (rowI es k) 7))]), (.int .i64 5)]) [(.var [(.int .i64 a), (.int .i64 b), (.int .i64 c), (.sl 8 fr es)]), (.var [(.int .i64 (nI (rowI es k) 0)), (.int .i64 (nI (rowI es k) 1)), (.int .i64 (nI (rowI es k) 2)), (.int .i64 (nI (rowI es k) 3)), (.int .i64 (nI (rowI es k) 4)), (.sl 2 false (sI (rowI es k) 5)), (.str (bI (rowI es k))), (.sl 2 false (sI (rowI es k) 7))]), (.var [(.int .i64 (nI (rowI es k) 0)), (.int .i64 (nI (rowI es k) 1)), (.int .i64 (nI (rowI es k) 2)), (.int .i64 (nI (rowI es k) 3)), (.int .i64 (nI (rowI es k) 4)), (.sl 2 false (sI (rowI es k) 5)), (.str (bI (rowI es k))), (.sl 2 false (sI (rowI es k) 7))])]) (ifB ((nI (rowI es k) 1) == 3) (Φ (.tup [(.agg [(.int .i64 (nI (rowI es k) 0)), (.int .i64 (nI (rowI es k) 1)), (.int .i64 (nI (rowI es k) 2)), (.int .i64 (nI (rowI es k) 3)), (.int .i64 (nI (rowI es k) 4)), (.sl 2 false (sI (rowI es k) 5)), (.str (bI (rowI es k))), (.sl 2 false (sI (rowI es k) 7))]), (.int .i64 1)]) [(.var [(.int .i64 a), (.int .i64 b), (.int .i64 c), (.sl 8 fr es)]), (.var [(.int .i64 (nI (rowI es k) 0)), (.int .i64 (nI (rowI es k) 1)), (.int .i64 (nI (rowI es k) 2)), (.int .i64 (nI (rowI es k) 3)), (.int .i64 (nI (rowI es k) 4)), (.sl 2 false (sI (rowI es k) 5)), (.str (bI (rowI es k))), (.sl 2 false (sI (rowI es k) 7))]), (.var [(.int .i64 (nI (rowI es k) 0)), (.int .i64 (nI (rowI es k) 1)), (.int .i64 (nI (rowI es k) 2)), (.int .i64 (nI (rowI es k) 3)), (.int .i64 (nI (rowI es k) 4)), (.sl 2 false (sI (rowI es k) 5)), (.str (bI (rowI es k))), (.sl 2 false (sI (rowI es k) 7))])]) (Φ (.tup [(.agg [(.int .i64 (nI (rowI es k) 0)), (.int .i64 (nI (rowI es k) 1)), (.int .i64 (nI (rowI es k) 2)), (.int .i64 (nI (rowI es k) 3)), (.int .i64 (nI (rowI es k) 4)), (.sl 2 false (sI (rowI es k) 5)), (.str (bI (rowI es k))), (.sl 2 false (sI (rowI es k) 7))]), (.int .i64 0)]) [(.var [(.int .i64 a), (.int .i64 b), (.int .i64 c), (.sl 8 fr es)]), (.var [(.int .i64 (nI (rowI es k) 0)), (.int .i64 (nI (rowI es k) 1)), (.int .i64 (nI (rowI es k) 2)), (.int .i64 (nI (rowI es k) 3)), (.int .i64 (nI (rowI es k) 4)), (.sl 2 false (sI (rowI es k) 5)), (.str (bI (rowI es k))), (.sl 2 false (sI (rowI es k) 7))]), (.var [(.int .i64 (nI (rowI es k) 0)), (.int .i64 (nI (rowI es k) 1)), (.int .i64 (nI (rowI es k) 2)), (.int .i64 (nI (rowI es k) 3)), (.int .i64 (nI (rowI es k) 4)), (.sl 2 false (sI (rowI es k) 5)), (.str (bI (rowI es k))), (.sl 2 false (sI (rowI es k) 7))])])))) := by kernel_rfl
theorem v17 (a b c : Int) (fr : Bool) (es : List (List AV)) (k : Int) (Φ : AV → List Ent → Prop) : wFunS te GB6 Try.f17 [(.agg [(.int .i64 a), (.int .i64 b), (.int .i64 c), (.sl 8 fr es)]), (.int .i64 k)] [] Φ = (CPN [(.agg [(.int .i64 a), (.int .i64 b), (.int .i64 c), (.sl 8 false es)]), (.int .i64 k)] ∧ (ifB (!(fndI es k)) (Φ (.agg [(.int .i64 0), (.int .i64 0), (.int .i64 0), (.int .i64 0), (.int .i64 0)]) [(.var [(.int .i64 a), (.int .i64 b), (.int .i64 c), (.sl 8 fr es)]), (.var [(.int .i64 0), (.int .i64 0), (.int .i64 0), (.int .i64 0), (.int .i64 0)]), (.var [(.int .i64 (nI (rowI es k) 0)), (.int .i64 (nI (rowI es k) 1)), (.int .i64 (nI (rowI es k) 2)), (.int .i64 (nI (rowI es k) 3)), (.int .i64 (nI (rowI es k) 4)), (.sl 2 false (sI (rowI es k) 5)), (.str (bI (rowI es k))), (.sl 2 false (sI (rowI es k) 7))])]) (Φ (.agg [(.int .i64 (nI (rowI es k) 0)), (.int .i64 (nI (rowI es k) 1)), (.int .i64 (nI (rowI es k) 2)), (.int .i64 (nI (rowI es k) 3)), (.int .i64 (IntKind.i64.wrap ((IntKind.i64.wrap ((nI (rowI es k) 4) + ((bI (rowI es k)).size : Int))) + ((sI (rowI es k) 7).length : Int))))]) [(.var [(.int .i64 a), (.int .i64 b), (.int .i64 c), (.sl 8 fr es)]), (.var [(.int .i64 (nI (rowI es k) 0)), (.int .i64 (nI (rowI es k) 1)), (.int .i64 (nI (rowI es k) 2)), (.int .i64 (nI (rowI es k) 3)), (.int .i64 (IntKind.i64.wrap ((IntKind.i64.wrap ((nI (rowI es k) 4) + ((bI (rowI es k)).size : Int))) + ((sI (rowI es k) 7).length : Int))))]), (.var [(.int .i64 (nI (rowI es k) 0)), (.int .i64 (nI (rowI es k) 1)), (.int .i64 (nI (rowI es k) 2)), (.int .i64 (nI (rowI es k) 3)), (.int .i64 (nI (rowI es k) 4)), (.sl 2 false (sI (rowI es k) 5)), (.str (bI (rowI es k))), (.sl 2 false (sI (rowI es k) 7))])]))) := by kernel_rfl
theorem fn38 : SpecSound Try.prog 38 (.fn CPN gKF) := dat_soundS te_ok GB6_sound mixed isFun_38 (by
  rintro xs Φ ⟨hC, h⟩
  unfold CPN at hC
  split at hC
  · rename_i a b c fr es k
    rw [v38]
    simp only [gKF, fileE] at h
    refine ⟨hC, ifB_both (fun c1 => ?_) (fun c1 => ifB_both (fun c2 => ?_) (fun c2 => ?_))⟩
    · rw [if_pos (eq_of_beq c1)] at h; exact h
    · rw [if_neg (ne_of_beq_false c1), if_pos (eq_of_beq c2)] at h; exact h
    · rw [if_neg (ne_of_beq_false c1), if_neg (ne_of_beq_false c2)] at h; exact h
  · cases hC)
theorem fn17 : SpecSound Try.prog 17 (.fn CPN gInfo) := dat_soundS te_ok GB6_sound mixed isFun_17 (by
  rintro xs Φ ⟨hC, h⟩
  unfold CPN at hC
  split at hC
  · rename_i a b c fr es k
    rw [v17]
    simp only [gInfo, infoR] at h
    refine ⟨hC, ifB_both (fun c1 => ?_) (fun c1 => ?_)⟩
    · have hf : fndI es k = false := by simpa using c1
      rw [if_neg (by rw [hf]; decide)] at h; exact h
    · have hf : fndI es k = true := by simpa using c1
      rw [if_pos hf] at h; exact h
  · cases hC)
def GB7 : GE := fun f => match f with
  | 38 => some (.fn CPN gKF)
  | 39 => some (.fn C1I gIn)
  | 52 => some (.fn CRd gRd)
  | _ => none
theorem GB7_sound : Sound Try.prog GB7 := by
  intro f sp h
  unfold GB7 at h
  split at h
  · cases h; exact fn38
  · cases h; exact fn39
  · cases h; exact fn52
  · cases h
theorem v25 (a b c : Int) (fr : Bool) (es : List (List AV)) (k p n : Int) (Φ : AV → List Ent → Prop) : wFunS te GB7 Try.f25 [(.agg [(.int .i64 a), (.int .i64 b), (.int .i64 c), (.sl 8 fr es)]), (.int .i64 k), (.int .i64 p), (.int .i64 n)] [] Φ = (CPN [(.agg [(.int .i64 a), (.int .i64 b), (.int .i64 c), (.sl 8 false es)]), (.int .i64 k)] ∧ (ifB ((fileE es k) != 0) (Φ (.tup [(.sl 1 true ([] : List (List AV))), (.int .i64 (fileE es k))]) [(.var [(.int .i64 a), (.int .i64 b), (.int .i64 c), (.sl 8 fr es)]), (.var [(.int .i64 (nI (rowI es k) 0)), (.int .i64 (nI (rowI es k) 1)), (.int .i64 (nI (rowI es k) 2)), (.int .i64 (nI (rowI es k) 3)), (.int .i64 (nI (rowI es k) 4)), (.sl 2 false (sI (rowI es k) 5)), (.str (bI (rowI es k))), (.sl 2 false (sI (rowI es k) 7))])]) (C1I [(.int .i64 p)] ∧ (ifB (!(inK p)) (Φ (.tup [(.sl 1 true ([] : List (List AV))), (.int .i64 1)]) [(.var [(.int .i64 a), (.int .i64 b), (.int .i64 c), (.sl 8 fr es)]), (.var [(.int .i64 (nI (rowI es k) 0)), (.int .i64 (nI (rowI es k) 1)), (.int .i64 (nI (rowI es k) 2)), (.int .i64 (nI (rowI es k) 3)), (.int .i64 (nI (rowI es k) 4)), (.sl 2 false (sI (rowI es k) 5)), (.str (bI (rowI es k))), (.sl 2 false (sI (rowI es k) 7))])]) (C1I [(.int .i64 n)] ∧ (ifB (!(inK n)) (Φ (.tup [(.sl 1 true ([] : List (List AV))), (.int .i64 1)]) [(.var [(.int .i64 a), (.int .i64 b), (.int .i64 c), (.sl 8 fr es)]), (.var [(.int .i64 (nI (rowI es k) 0)), (.int .i64 (nI (rowI es k) 1)), (.int .i64 (nI (rowI es k) 2)), (.int .i64 (nI (rowI es k) 3)), (.int .i64 (nI (rowI es k) 4)), (.sl 2 false (sI (rowI es k) 5)), (.str (bI (rowI es k))), (.sl 2 false (sI (rowI es k) 7))])]) (CRd [(.agg [(.int .i64 (nI (rowI es k) 4)), (.sl 2 false (sI (rowI es k) 5))]), (.int .i64 p), (.int .i64 n)] ∧ (Φ (.tup [(.sl 1 false (readR (sI (rowI es k) 5) (nI (rowI es k) 4) p n)), (.int .i64 0)]) [(.var [(.int .i64 a), (.int .i64 b), (.int .i64 c), (.sl 8 fr es)]), (.var [(.int .i64 (nI (rowI es k) 0)), (.int .i64 (nI (rowI es k) 1)), (.int .i64 (nI (rowI es k) 2)), (.int .i64 (nI (rowI es k) 3)), (.int .i64 (nI (rowI es k) 4)), (.sl 2 false (sI (rowI es k) 5)), (.str (bI (rowI es k))), (.sl 2 false (sI (rowI es k) 7))])])))))))) := by kernel_rfl
theorem node_blocks {r : List AV} (h : IsNode r) : IsBlocks (sI r 5) := by
  obtain ⟨_, _, _, _, _, _, _, _, rfl, h, _⟩ := h
  exact h
theorem node_names {r : List AV} (h : IsNode r) : IsNames (sI r 7) := by
  obtain ⟨_, _, _, _, _, _, _, _, rfl, _, h⟩ := h
  exact h
def keepRead (es : List (List AV)) (k p n : Int) : List (List AV) × Int :=
  if fileE es k ≠ 0 then ([], fileE es k) else if (inK p && inK n) = true then (readR (sI (rowI es k) 5) (nI (rowI es k) 4) p n, 0) else ([], 1)
def CKR : List AV → Prop
  | [.agg [.int .i64 _, .int .i64 _, .int .i64 _, .sl 8 _ es], .int .i64 _, .int .i64 _, .int .i64 _] => IsNodes es
  | _ => False
def gKR : List AV → AV
  | [.agg [_, _, _, .sl _ _ es], .int _ k, .int _ p, .int _ n] => .tup [.sl 1 false (keepRead es k p n).1, .int .i64 (keepRead es k p n).2]
  | _ => .junk
theorem fn25 : SpecSound Try.prog 25 (.fn CKR gKR) := dat_soundS te_ok GB7_sound mixed isFun_25 (by
  rintro xs Φ ⟨hC, h⟩
  unfold CKR at hC
  split at hC
  · rename_i a b c fr es k p n
    rw [v25]
    simp only [gKR, keepRead] at h
    refine ⟨hC, ifB_both (fun c1 => ?_) (fun c1 => ?_)⟩
    · have hf : fileE es k ≠ 0 := by simpa using c1
      rw [if_pos hf] at h; exact h
    · have hf : ¬ fileE es k ≠ 0 := by simpa using c1
      rw [if_neg hf] at h
      refine ⟨trivial, ifB_both (fun c2 => ?_) (fun c2 => ⟨trivial, ifB_both (fun c3 => ?_) (fun c3 => ?_)⟩)⟩
      · have hp : inK p = false := by simpa using c2
        rw [hp, Bool.false_and, if_neg (by decide)] at h; exact h
      · have hp : inK p = true := by simpa using c2
        have hn : inK n = false := by simpa using c3
        rw [hp, hn, if_neg (by decide)] at h; exact h
      · have hp : inK p = true := by simpa using c2
        have hn : inK n = true := by simpa using c3
        rw [hp, hn, if_pos (by decide)] at h
        have hp' := of_decide_eq_true hp
        have hn' := of_decide_eq_true hn
        exact ⟨⟨node_blocks (isNode_row hC k), by omega, by omega, by omega, by omega⟩, h⟩
  · cases hC)
end Go.Proofs.Ytdojencjbmahpaa
end
