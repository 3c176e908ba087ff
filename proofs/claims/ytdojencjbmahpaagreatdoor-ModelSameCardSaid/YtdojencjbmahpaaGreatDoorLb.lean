/-
  LIBRARY FUNCTIONS of the seat: clones, slices.Insert, slices.Delete, and the model's own entries.
-/
import Derived.Test.YtdojencjbmahpaaGreatDoorRhJ
import Derived.Test.YtdojencjbmahpaaGreatDoorTe
namespace Go.Proofs.YtdojencjbmahpaaGreatDoor
open Go.Rf
set_option maxRecDepth 100000
theorem v173 (fr : Bool) (es : List (List AV)) (H : List Ent) (Φ : AV → List Ent → Prop) : wFun te (fun _ => none) Tryz.f173 [.sl 8 fr es] H Φ =
  (∀ b : Bool, (b = true → es = []) → ifB b (Φ (.sl 8 true []) H) (((fits 8 8 es = true ∧ fits 8 8 [] = true) ∧ (([] : List (List AV)) = [] ∨ es ≠ []) ∧ room (0 + es.length) 104) ∧ Φ (.own H.length 1 (0 + es.length)) (setH H H.length (.arr true 1 8 none ([] ++ es))))) := by kernel_rfl
theorem clone_173 : SpecSound Tryz.prog 173 (XS.spec (.gen (xClone 8 104))) := clone_sound te_ok mixed (f := 173) (fn := Tryz.f173) ⟨Tryz.func173, by kernel_rfl, by kernel_rfl⟩ (by decide) v173
theorem v160 (fr : Bool) (es : List (List AV)) (H : List Ent) (Φ : AV → List Ent → Prop) : wFun te (fun _ => none) Tryz.f160 [.sl 2 fr es] H Φ =
  (∀ b : Bool, (b = true → es = []) → ifB b (Φ (.sl 2 true []) H) (((fits 2 2 es = true ∧ fits 2 2 [] = true) ∧ (([] : List (List AV)) = [] ∨ es ≠ []) ∧ room (0 + es.length) 24) ∧ Φ (.own H.length 1 (0 + es.length)) (setH H H.length (.arr true 1 2 none ([] ++ es))))) := by kernel_rfl
theorem clone_160 : SpecSound Tryz.prog 160 (XS.spec (.gen (xClone 2 24))) := clone_sound te_ok mixed (f := 160) (fn := Tryz.f160) ⟨Tryz.func160, by kernel_rfl, by kernel_rfl⟩ (by decide) v160
theorem v180 (fr : Bool) (es : List (List AV)) (H : List Ent) (Φ : AV → List Ent → Prop) : wFun te (fun _ => none) Tryz.f180 [.sl 2 fr es] H Φ =
  (∀ b : Bool, (b = true → es = []) → ifB b (Φ (.sl 2 true []) H) (((fits 2 2 es = true ∧ fits 2 2 [] = true) ∧ (([] : List (List AV)) = [] ∨ es ≠ []) ∧ room (0 + es.length) 32) ∧ Φ (.own H.length 1 (0 + es.length)) (setH H H.length (.arr true 1 2 none ([] ++ es))))) := by kernel_rfl
theorem clone_180 : SpecSound Tryz.prog 180 (XS.spec (.gen (xClone 2 32))) := clone_sound te_ok mixed (f := 180) (fn := Tryz.f180) ⟨Tryz.func180, by kernel_rfl, by kernel_rfl⟩ (by decide) v180
theorem v181 (fr : Bool) (es : List (List AV)) (H : List Ent) (Φ : AV → List Ent → Prop) : wFun te (fun _ => none) Tryz.f181 [.sl 1 fr es] H Φ =
  (∀ b : Bool, (b = true → es = []) → ifB b (Φ (.sl 1 true []) H) (((fits 1 1 es = true ∧ fits 1 1 [] = true) ∧ (([] : List (List AV)) = [] ∨ es ≠ []) ∧ room (0 + es.length) 1) ∧ Φ (.own H.length 1 (0 + es.length)) (setH H H.length (.arr true 1 1 none ([] ++ es))))) := by kernel_rfl
theorem clone_181 : SpecSound Tryz.prog 181 (XS.spec (.gen (xClone 1 1))) := clone_sound te_ok mixed (f := 181) (fn := Tryz.f181) ⟨Tryz.func181, by kernel_rfl, by kernel_rfl⟩ (by decide) v181
theorem v163 (fr : Bool) (es : List (List AV)) (H : List Ent) (Φ : AV → List Ent → Prop) : wFun te (fun _ => none) Tryz.f163 [.sl 1 fr es] H Φ =
  (∀ b : Bool, (b = true → es = []) → ifB b (Φ (.sl 1 true []) H) (((fits 1 1 es = true ∧ fits 1 1 [] = true) ∧ (([] : List (List AV)) = [] ∨ es ≠ []) ∧ room (0 + es.length) 1) ∧ Φ (.own H.length 1 (0 + es.length)) (setH H H.length (.arr true 1 1 none ([] ++ es))))) := by kernel_rfl
theorem clone_163 : SpecSound Tryz.prog 163 (XS.spec (.gen (xClone 1 1))) := clone_sound te_ok mixed (f := 163) (fn := Tryz.f163) ⟨Tryz.func163, by kernel_rfl, by kernel_rfl⟩ (by decide) v163
theorem ov_174 : GSound Tryz.prog 174 gOv := overlaps_sound (fn := Tryz.f174) (tS := 27) (tR := 4) (e := 58) (size := 8) (by kernel_rfl) (by kernel_rfl) (by kernel_rfl) (by kernel_rfl) (by kernel_rfl) (by kernel_rfl) (fun w => by kernel_rfl)
theorem v149 (v : Nat) (i : Int) (z : Nat) (fr : Bool) (es vs : List (List AV)) (Φ : AV → List Ent → Prop) : wFun te (ovEnv 174) Tryz.f149 [.own 0 v es.length, .int .i64 i, .sl z fr vs] [.arr true v 8 none es] Φ = insF te 27 58 8 104 v i z fr es vs Φ := by kernel_rfl
theorem insert_149 : SpecSound Tryz.prog 149 (XS.spec (.gen (xLend (xIns 8 104) 8))) := insert_sound te_ok mixed (f := 149) (fn := Tryz.f149) ⟨Tryz.func149, by kernel_rfl, by kernel_rfl⟩ ov_174 (by decide) (by decide) v149
theorem ov_176 : GSound Tryz.prog 176 gOv := overlaps_sound (fn := Tryz.f176) (tS := 56) (tR := 4) (e := 111) (size := 2) (by kernel_rfl) (by kernel_rfl) (by kernel_rfl) (by kernel_rfl) (by kernel_rfl) (by kernel_rfl) (fun w => by kernel_rfl)
theorem v150 (v : Nat) (i : Int) (z : Nat) (fr : Bool) (es vs : List (List AV)) (Φ : AV → List Ent → Prop) : wFun te (ovEnv 176) Tryz.f150 [.own 0 v es.length, .int .i64 i, .sl z fr vs] [.arr true v 2 none es] Φ = insF te 56 111 2 24 v i z fr es vs Φ := by kernel_rfl
theorem insert_150 : SpecSound Tryz.prog 150 (XS.spec (.gen (xLend (xIns 2 24) 2))) := insert_sound te_ok mixed (f := 150) (fn := Tryz.f150) ⟨Tryz.func150, by kernel_rfl, by kernel_rfl⟩ ov_176 (by decide) (by decide) v150
theorem v151 (v : Nat) (i j : Int) (es : List (List AV)) (Φ : AV → List Ent → Prop) : wFun te (fun _ => none) Tryz.f151 [.own 0 v es.length, .int .i64 i, .int .i64 j] [.arr true v 2 none es] Φ = delF te 56 111 2 24 v i j es Φ := by kernel_rfl
theorem delete_151 : SpecSound Tryz.prog 151 (XS.spec (.gen (xLend xDel 2))) := delete_sound te_ok mixed (f := 151) (fn := Tryz.f151) ⟨Tryz.func151, by kernel_rfl, by kernel_rfl⟩ v151
theorem v152 (v : Nat) (i j : Int) (es : List (List AV)) (Φ : AV → List Ent → Prop) : wFun te (fun _ => none) Tryz.f152 [.own 0 v es.length, .int .i64 i, .int .i64 j] [.arr true v 8 none es] Φ = delF te 27 58 8 104 v i j es Φ := by kernel_rfl
theorem delete_152 : SpecSound Tryz.prog 152 (XS.spec (.gen (xLend xDel 8))) := delete_sound te_ok mixed (f := 152) (fn := Tryz.f152) ⟨Tryz.func152, by kernel_rfl, by kernel_rfl⟩ v152
theorem ext_172 : SpecSound Tryz.prog 172 (XS.spec (.dat xCount)) := count_sound (fn := Tryz.f172) (by kernel_rfl) (by kernel_rfl) (by kernel_rfl) (by kernel_rfl) (by kernel_rfl)
theorem ext_186 : SpecSound Tryz.prog 186 (XS.spec (.dat xIndexB)) := indexB_sound (fn := Tryz.f186) (by kernel_rfl) (by kernel_rfl) (by kernel_rfl) (by kernel_rfl) (by kernel_rfl)
end Go.Proofs.YtdojencjbmahpaaGreatDoor
