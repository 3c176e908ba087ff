/-
  WHAT IS RUN: the functions of the third seat, each by its own text.
-/
import Derived.Test.YtdojencjbmahpaaGreatDoorLb
namespace Go.Proofs.YtdojencjbmahpaaGreatDoor
open Go.Rf
set_option maxRecDepth 100000
theorem isFun_134 : IsFun Tryz.prog 134 Tryz.f134 := ⟨Tryz.func134, by kernel_rfl, by kernel_rfl⟩
theorem stat_134 : codeStat (Tryz.f134.body.getD .skip) = true := by kernel_rfl
theorem isFun_149 : IsFun Tryz.prog 149 Tryz.f149 := ⟨Tryz.func149, by kernel_rfl, by kernel_rfl⟩
theorem stat_149 : codeStat (Tryz.f149.body.getD .skip) = true := by kernel_rfl
noncomputable def tB (X : XE) : XE := fun f => match f with
  | 133 => X 133
  | 148 => X 148
  | 134 => some (.dat (fKeep 7 te X 400 Tryz.f134))
  | 149 => some (.gen (fFun te (fun _ => none) 400 Tryz.f149))
  | _ => none
theorem tB_sound {X : XE} (hX : Sound Tryz.prog X.env) : Sound Tryz.prog (tB X).env := by
    intro f sp h
    unfold XE.env at h
    generalize hx : tB X f = ox at h
    unfold tB at hx
    split at hx
    · exact hX _ _ (env_of h hx)
    · exact hX _ _ (env_of h hx)
    · subst hx; cases h; exact fKeep_sound 7 te_ok hX mixed isFun_134 stat_134 400
    · subst hx; cases h; exact fGen_sound te_ok none_sound mixed isFun_149 stat_149 400
    · subst hx; cases h
theorem isFun_128 : IsFun Tryz.prog 128 Tryz.f128 := ⟨Tryz.func128, by kernel_rfl, by kernel_rfl⟩
theorem stat_128 : codeStat (Tryz.f128.body.getD .skip) = true := by kernel_rfl
noncomputable def tA (X : XE) : XE := fun f => match f with
  | 128 => some (.gen (fFun te (tB X) 400 Tryz.f128))
  | 132 => X 132
  | 151 => X 151
  | _ => none
theorem tA_sound {X : XE} (hX : Sound Tryz.prog X.env) : Sound Tryz.prog (tA X).env := by
    intro f sp h
    unfold XE.env at h
    generalize hx : tA X f = ox at h
    unfold tA at hx
    split at hx
    · subst hx; cases h; exact fGen_sound te_ok (tB_sound hX) mixed isFun_128 stat_128 400
    · exact hX _ _ (env_of h hx)
    · exact hX _ _ (env_of h hx)
    · subst hx; cases h
theorem isFun_130 : IsFun Tryz.prog 130 Tryz.f130 := ⟨Tryz.func130, by kernel_rfl, by kernel_rfl⟩
theorem stat_130 : codeStat (Tryz.f130.body.getD .skip) = true := by kernel_rfl
noncomputable def tW (X : XE) : XE := fun f => match f with
  | 130 => some (.gen (fFun te (tA X) 400 Tryz.f130))
  | 132 => X 132
  | 150 => X 150
  | _ => none
theorem tW_sound {X : XE} (hX : Sound Tryz.prog X.env) : Sound Tryz.prog (tW X).env := by
    intro f sp h
    unfold XE.env at h
    generalize hx : tW X f = ox at h
    unfold tW at hx
    split at hx
    · subst hx; cases h; exact fGen_sound te_ok (tA_sound hX) mixed isFun_130 stat_130 400
    · exact hX _ _ (env_of h hx)
    · exact hX _ _ (env_of h hx)
    · subst hx; cases h
theorem isFun_133 : IsFun Tryz.prog 133 Tryz.f133 := ⟨Tryz.func133, by kernel_rfl, by kernel_rfl⟩
theorem stat_133 : codeStat (Tryz.f133.body.getD .skip) = true := by kernel_rfl
theorem isFun_157 : IsFun Tryz.prog 157 Tryz.f157 := ⟨Tryz.func157, by kernel_rfl, by kernel_rfl⟩
theorem stat_157 : codeStat (Tryz.f157.body.getD .skip) = true := by kernel_rfl
theorem isFun_158 : IsFun Tryz.prog 158 Tryz.f158 := ⟨Tryz.func158, by kernel_rfl, by kernel_rfl⟩
theorem stat_158 : codeStat (Tryz.f158.body.getD .skip) = true := by kernel_rfl
theorem isFun_179 : IsFun Tryz.prog 179 Tryz.f179 := ⟨Tryz.func179, by kernel_rfl, by kernel_rfl⟩
theorem stat_179 : codeStat (Tryz.f179.body.getD .skip) = true := by kernel_rfl
theorem isFun_155 : IsFun Tryz.prog 155 Tryz.f155 := ⟨Tryz.func155, by kernel_rfl, by kernel_rfl⟩
theorem stat_155 : codeStat (Tryz.f155.body.getD .skip) = true := by kernel_rfl
theorem isFun_178 : IsFun Tryz.prog 178 Tryz.f178 := ⟨Tryz.func178, by kernel_rfl, by kernel_rfl⟩
theorem stat_178 : codeStat (Tryz.f178.body.getD .skip) = true := by kernel_rfl
theorem isFun_156 : IsFun Tryz.prog 156 Tryz.f156 := ⟨Tryz.func156, by kernel_rfl, by kernel_rfl⟩
theorem stat_156 : codeStat (Tryz.f156.body.getD .skip) = true := by kernel_rfl
theorem isFun_153 : IsFun Tryz.prog 153 Tryz.f153 := ⟨Tryz.func153, by kernel_rfl, by kernel_rfl⟩
theorem stat_153 : codeStat (Tryz.f153.body.getD .skip) = true := by kernel_rfl
theorem isFun_154 : IsFun Tryz.prog 154 Tryz.f154 := ⟨Tryz.func154, by kernel_rfl, by kernel_rfl⟩
theorem stat_154 : codeStat (Tryz.f154.body.getD .skip) = true := by kernel_rfl
theorem isFun_132 : IsFun Tryz.prog 132 Tryz.f132 := ⟨Tryz.func132, by kernel_rfl, by kernel_rfl⟩
theorem stat_132 : codeStat (Tryz.f132.body.getD .skip) = true := by kernel_rfl
theorem isFun_159 : IsFun Tryz.prog 159 Tryz.f159 := ⟨Tryz.func159, by kernel_rfl, by kernel_rfl⟩
theorem stat_159 : codeStat (Tryz.f159.body.getD .skip) = true := by kernel_rfl
theorem isFun_102 : IsFun Tryz.prog 102 Tryz.f102 := ⟨Tryz.func102, by kernel_rfl, by kernel_rfl⟩
theorem stat_102 : codeStat (Tryz.f102.body.getD .skip) = true := by kernel_rfl
theorem isFun_127 : IsFun Tryz.prog 127 Tryz.f127 := ⟨Tryz.func127, by kernel_rfl, by kernel_rfl⟩
theorem stat_127 : codeStat (Tryz.f127.body.getD .skip) = true := by kernel_rfl
theorem isFun_131 : IsFun Tryz.prog 131 Tryz.f131 := ⟨Tryz.func131, by kernel_rfl, by kernel_rfl⟩
theorem stat_131 : codeStat (Tryz.f131.body.getD .skip) = true := by kernel_rfl
theorem isFun_126 : IsFun Tryz.prog 126 Tryz.f126 := ⟨Tryz.func126, by kernel_rfl, by kernel_rfl⟩
theorem stat_126 : codeStat (Tryz.f126.body.getD .skip) = true := by kernel_rfl
theorem isFun_100 : IsFun Tryz.prog 100 Tryz.f100 := ⟨Tryz.func100, by kernel_rfl, by kernel_rfl⟩
theorem stat_100 : codeStat (Tryz.f100.body.getD .skip) = true := by kernel_rfl
theorem isFun_96 : IsFun Tryz.prog 96 Tryz.f96 := ⟨Tryz.func96, by kernel_rfl, by kernel_rfl⟩
theorem stat_96 : codeStat (Tryz.f96.body.getD .skip) = true := by kernel_rfl
theorem isFun_99 : IsFun Tryz.prog 99 Tryz.f99 := ⟨Tryz.func99, by kernel_rfl, by kernel_rfl⟩
theorem stat_99 : codeStat (Tryz.f99.body.getD .skip) = true := by kernel_rfl
theorem isFun_98 : IsFun Tryz.prog 98 Tryz.f98 := ⟨Tryz.func98, by kernel_rfl, by kernel_rfl⟩
theorem stat_98 : codeStat (Tryz.f98.body.getD .skip) = true := by kernel_rfl
theorem isFun_105 : IsFun Tryz.prog 105 Tryz.f105 := ⟨Tryz.func105, by kernel_rfl, by kernel_rfl⟩
theorem stat_105 : codeStat (Tryz.f105.body.getD .skip) = true := by kernel_rfl
theorem isFun_97 : IsFun Tryz.prog 97 Tryz.f97 := ⟨Tryz.func97, by kernel_rfl, by kernel_rfl⟩
theorem stat_97 : codeStat (Tryz.f97.body.getD .skip) = true := by kernel_rfl
theorem isFun_95 : IsFun Tryz.prog 95 Tryz.f95 := ⟨Tryz.func95, by kernel_rfl, by kernel_rfl⟩
theorem stat_95 : codeStat (Tryz.f95.body.getD .skip) = true := by kernel_rfl
theorem isFun_21 : IsFun Tryz.prog 21 Tryz.f21 := ⟨Tryz.func21, by kernel_rfl, by kernel_rfl⟩
theorem stat_21 : codeStat (Tryz.f21.body.getD .skip) = true := by kernel_rfl
theorem isFun_18 : IsFun Tryz.prog 18 Tryz.f18 := ⟨Tryz.func18, by kernel_rfl, by kernel_rfl⟩
theorem stat_18 : codeStat (Tryz.f18.body.getD .skip) = true := by kernel_rfl
theorem isFun_29 : IsFun Tryz.prog 29 Tryz.f29 := ⟨Tryz.func29, by kernel_rfl, by kernel_rfl⟩
theorem stat_29 : codeStat (Tryz.f29.body.getD .skip) = true := by kernel_rfl
theorem isFun_56 : IsFun Tryz.prog 56 Tryz.f56 := ⟨Tryz.func56, by kernel_rfl, by kernel_rfl⟩
theorem stat_56 : codeStat (Tryz.f56.body.getD .skip) = true := by kernel_rfl
theorem isFun_57 : IsFun Tryz.prog 57 Tryz.f57 := ⟨Tryz.func57, by kernel_rfl, by kernel_rfl⟩
theorem stat_57 : codeStat (Tryz.f57.body.getD .skip) = true := by kernel_rfl
theorem isFun_88 : IsFun Tryz.prog 88 Tryz.f88 := ⟨Tryz.func88, by kernel_rfl, by kernel_rfl⟩
theorem stat_88 : codeStat (Tryz.f88.body.getD .skip) = true := by kernel_rfl
theorem isFun_43 : IsFun Tryz.prog 43 Tryz.f43 := ⟨Tryz.func43, by kernel_rfl, by kernel_rfl⟩
theorem stat_43 : codeStat (Tryz.f43.body.getD .skip) = true := by kernel_rfl
theorem isFun_54 : IsFun Tryz.prog 54 Tryz.f54 := ⟨Tryz.func54, by kernel_rfl, by kernel_rfl⟩
theorem stat_54 : codeStat (Tryz.f54.body.getD .skip) = true := by kernel_rfl
theorem isFun_40 : IsFun Tryz.prog 40 Tryz.f40 := ⟨Tryz.func40, by kernel_rfl, by kernel_rfl⟩
theorem stat_40 : codeStat (Tryz.f40.body.getD .skip) = true := by kernel_rfl
theorem isFun_63 : IsFun Tryz.prog 63 Tryz.f63 := ⟨Tryz.func63, by kernel_rfl, by kernel_rfl⟩
theorem stat_63 : codeStat (Tryz.f63.body.getD .skip) = true := by kernel_rfl
theorem isFun_28 : IsFun Tryz.prog 28 Tryz.f28 := ⟨Tryz.func28, by kernel_rfl, by kernel_rfl⟩
theorem stat_28 : codeStat (Tryz.f28.body.getD .skip) = true := by kernel_rfl
theorem isFun_55 : IsFun Tryz.prog 55 Tryz.f55 := ⟨Tryz.func55, by kernel_rfl, by kernel_rfl⟩
theorem stat_55 : codeStat (Tryz.f55.body.getD .skip) = true := by kernel_rfl
theorem isFun_31 : IsFun Tryz.prog 31 Tryz.f31 := ⟨Tryz.func31, by kernel_rfl, by kernel_rfl⟩
theorem stat_31 : codeStat (Tryz.f31.body.getD .skip) = true := by kernel_rfl
theorem isFun_17 : IsFun Tryz.prog 17 Tryz.f17 := ⟨Tryz.func17, by kernel_rfl, by kernel_rfl⟩
theorem stat_17 : codeStat (Tryz.f17.body.getD .skip) = true := by kernel_rfl
theorem isFun_26 : IsFun Tryz.prog 26 Tryz.f26 := ⟨Tryz.func26, by kernel_rfl, by kernel_rfl⟩
theorem stat_26 : codeStat (Tryz.f26.body.getD .skip) = true := by kernel_rfl
theorem isFun_41 : IsFun Tryz.prog 41 Tryz.f41 := ⟨Tryz.func41, by kernel_rfl, by kernel_rfl⟩
theorem stat_41 : codeStat (Tryz.f41.body.getD .skip) = true := by kernel_rfl
theorem isFun_24 : IsFun Tryz.prog 24 Tryz.f24 := ⟨Tryz.func24, by kernel_rfl, by kernel_rfl⟩
theorem stat_24 : codeStat (Tryz.f24.body.getD .skip) = true := by kernel_rfl
theorem isFun_103 : IsFun Tryz.prog 103 Tryz.f103 := ⟨Tryz.func103, by kernel_rfl, by kernel_rfl⟩
theorem stat_103 : codeStat (Tryz.f103.body.getD .skip) = true := by kernel_rfl
theorem isFun_104 : IsFun Tryz.prog 104 Tryz.f104 := ⟨Tryz.func104, by kernel_rfl, by kernel_rfl⟩
theorem stat_104 : codeStat (Tryz.f104.body.getD .skip) = true := by kernel_rfl
theorem isFun_64 : IsFun Tryz.prog 64 Tryz.f64 := ⟨Tryz.func64, by kernel_rfl, by kernel_rfl⟩
theorem stat_64 : codeStat (Tryz.f64.body.getD .skip) = true := by kernel_rfl
theorem isFun_101 : IsFun Tryz.prog 101 Tryz.f101 := ⟨Tryz.func101, by kernel_rfl, by kernel_rfl⟩
theorem stat_101 : codeStat (Tryz.f101.body.getD .skip) = true := by kernel_rfl
theorem isFun_90 : IsFun Tryz.prog 90 Tryz.f90 := ⟨Tryz.func90, by kernel_rfl, by kernel_rfl⟩
theorem stat_90 : codeStat (Tryz.f90.body.getD .skip) = true := by kernel_rfl
theorem isFun_121 : IsFun Tryz.prog 121 Tryz.f121 := ⟨Tryz.func121, by kernel_rfl, by kernel_rfl⟩
theorem stat_121 : codeStat (Tryz.f121.body.getD .skip) = true := by kernel_rfl
theorem isFun_92 : IsFun Tryz.prog 92 Tryz.f92 := ⟨Tryz.func92, by kernel_rfl, by kernel_rfl⟩
theorem stat_92 : codeStat (Tryz.f92.body.getD .skip) = true := by kernel_rfl
theorem isFun_93 : IsFun Tryz.prog 93 Tryz.f93 := ⟨Tryz.func93, by kernel_rfl, by kernel_rfl⟩
theorem stat_93 : codeStat (Tryz.f93.body.getD .skip) = true := by kernel_rfl
theorem isFun_94 : IsFun Tryz.prog 94 Tryz.f94 := ⟨Tryz.func94, by kernel_rfl, by kernel_rfl⟩
theorem stat_94 : codeStat (Tryz.f94.body.getD .skip) = true := by kernel_rfl
theorem isFun_125 : IsFun Tryz.prog 125 Tryz.f125 := ⟨Tryz.func125, by kernel_rfl, by kernel_rfl⟩
theorem stat_125 : codeStat (Tryz.f125.body.getD .skip) = true := by kernel_rfl
theorem isFun_124 : IsFun Tryz.prog 124 Tryz.f124 := ⟨Tryz.func124, by kernel_rfl, by kernel_rfl⟩
theorem stat_124 : codeStat (Tryz.f124.body.getD .skip) = true := by kernel_rfl
theorem isFun_147 : IsFun Tryz.prog 147 Tryz.f147 := ⟨Tryz.func147, by kernel_rfl, by kernel_rfl⟩
theorem stat_147 : codeStat (Tryz.f147.body.getD .skip) = true := by kernel_rfl
theorem isFun_123 : IsFun Tryz.prog 123 Tryz.f123 := ⟨Tryz.func123, by kernel_rfl, by kernel_rfl⟩
theorem stat_123 : codeStat (Tryz.f123.body.getD .skip) = true := by kernel_rfl
theorem isFun_145 : IsFun Tryz.prog 145 Tryz.f145 := ⟨Tryz.func145, by kernel_rfl, by kernel_rfl⟩
theorem stat_145 : codeStat (Tryz.f145.body.getD .skip) = true := by kernel_rfl
theorem isFun_166 : IsFun Tryz.prog 166 Tryz.f166 := ⟨Tryz.func166, by kernel_rfl, by kernel_rfl⟩
theorem stat_166 : codeStat (Tryz.f166.body.getD .skip) = true := by kernel_rfl
theorem isFun_53 : IsFun Tryz.prog 53 Tryz.f53 := ⟨Tryz.func53, by kernel_rfl, by kernel_rfl⟩
theorem stat_53 : codeStat (Tryz.f53.body.getD .skip) = true := by kernel_rfl
theorem isFun_87 : IsFun Tryz.prog 87 Tryz.f87 := ⟨Tryz.func87, by kernel_rfl, by kernel_rfl⟩
theorem stat_87 : codeStat (Tryz.f87.body.getD .skip) = true := by kernel_rfl
theorem isFun_62 : IsFun Tryz.prog 62 Tryz.f62 := ⟨Tryz.func62, by kernel_rfl, by kernel_rfl⟩
theorem stat_62 : codeStat (Tryz.f62.body.getD .skip) = true := by kernel_rfl
theorem isFun_61 : IsFun Tryz.prog 61 Tryz.f61 := ⟨Tryz.func61, by kernel_rfl, by kernel_rfl⟩
theorem stat_61 : codeStat (Tryz.f61.body.getD .skip) = true := by kernel_rfl
theorem isFun_110 : IsFun Tryz.prog 110 Tryz.f110 := ⟨Tryz.func110, by kernel_rfl, by kernel_rfl⟩
theorem stat_110 : codeStat (Tryz.f110.body.getD .skip) = true := by kernel_rfl
theorem isFun_135 : IsFun Tryz.prog 135 Tryz.f135 := ⟨Tryz.func135, by kernel_rfl, by kernel_rfl⟩
theorem stat_135 : codeStat (Tryz.f135.body.getD .skip) = true := by kernel_rfl
theorem isFun_136 : IsFun Tryz.prog 136 Tryz.f136 := ⟨Tryz.func136, by kernel_rfl, by kernel_rfl⟩
theorem stat_136 : codeStat (Tryz.f136.body.getD .skip) = true := by kernel_rfl
theorem isFun_109 : IsFun Tryz.prog 109 Tryz.f109 := ⟨Tryz.func109, by kernel_rfl, by kernel_rfl⟩
theorem stat_109 : codeStat (Tryz.f109.body.getD .skip) = true := by kernel_rfl
theorem isFun_107 : IsFun Tryz.prog 107 Tryz.f107 := ⟨Tryz.func107, by kernel_rfl, by kernel_rfl⟩
theorem stat_107 : codeStat (Tryz.f107.body.getD .skip) = true := by kernel_rfl
theorem isFun_139 : IsFun Tryz.prog 139 Tryz.f139 := ⟨Tryz.func139, by kernel_rfl, by kernel_rfl⟩
theorem stat_139 : codeStat (Tryz.f139.body.getD .skip) = true := by kernel_rfl
theorem isFun_161 : IsFun Tryz.prog 161 Tryz.f161 := ⟨Tryz.func161, by kernel_rfl, by kernel_rfl⟩
theorem stat_161 : codeStat (Tryz.f161.body.getD .skip) = true := by kernel_rfl
theorem isFun_183 : IsFun Tryz.prog 183 Tryz.f183 := ⟨Tryz.func183, by kernel_rfl, by kernel_rfl⟩
theorem stat_183 : codeStat (Tryz.f183.body.getD .skip) = true := by kernel_rfl
theorem isFun_182 : IsFun Tryz.prog 182 Tryz.f182 := ⟨Tryz.func182, by kernel_rfl, by kernel_rfl⟩
theorem stat_182 : codeStat (Tryz.f182.body.getD .skip) = true := by kernel_rfl
theorem isFun_184 : IsFun Tryz.prog 184 Tryz.f184 := ⟨Tryz.func184, by kernel_rfl, by kernel_rfl⟩
theorem stat_184 : codeStat (Tryz.f184.body.getD .skip) = true := by kernel_rfl
theorem isFun_191 : IsFun Tryz.prog 191 Tryz.f191 := ⟨Tryz.func191, by kernel_rfl, by kernel_rfl⟩
theorem stat_191 : codeStat (Tryz.f191.body.getD .skip) = true := by kernel_rfl
theorem isFun_20 : IsFun Tryz.prog 20 Tryz.f20 := ⟨Tryz.func20, by kernel_rfl, by kernel_rfl⟩
theorem stat_20 : codeStat (Tryz.f20.body.getD .skip) = true := by kernel_rfl
theorem isFun_36 : IsFun Tryz.prog 36 Tryz.f36 := ⟨Tryz.func36, by kernel_rfl, by kernel_rfl⟩
theorem stat_36 : codeStat (Tryz.f36.body.getD .skip) = true := by kernel_rfl
theorem isFun_33 : IsFun Tryz.prog 33 Tryz.f33 := ⟨Tryz.func33, by kernel_rfl, by kernel_rfl⟩
theorem stat_33 : codeStat (Tryz.f33.body.getD .skip) = true := by kernel_rfl
theorem isFun_59 : IsFun Tryz.prog 59 Tryz.f59 := ⟨Tryz.func59, by kernel_rfl, by kernel_rfl⟩
theorem stat_59 : codeStat (Tryz.f59.body.getD .skip) = true := by kernel_rfl
theorem isFun_35 : IsFun Tryz.prog 35 Tryz.f35 := ⟨Tryz.func35, by kernel_rfl, by kernel_rfl⟩
theorem stat_35 : codeStat (Tryz.f35.body.getD .skip) = true := by kernel_rfl
theorem isFun_148 : IsFun Tryz.prog 148 Tryz.f148 := ⟨Tryz.func148, by kernel_rfl, by kernel_rfl⟩
theorem stat_148 : codeStat (Tryz.f148.body.getD .skip) = true := by kernel_rfl
theorem isFun_129 : IsFun Tryz.prog 129 Tryz.f129 := ⟨Tryz.func129, by kernel_rfl, by kernel_rfl⟩
theorem stat_129 : codeStat (Tryz.f129.body.getD .skip) = true := by kernel_rfl
theorem isFun_42 : IsFun Tryz.prog 42 Tryz.f42 := ⟨Tryz.func42, by kernel_rfl, by kernel_rfl⟩
theorem stat_42 : codeStat (Tryz.f42.body.getD .skip) = true := by kernel_rfl
theorem isFun_65 : IsFun Tryz.prog 65 Tryz.f65 := ⟨Tryz.func65, by kernel_rfl, by kernel_rfl⟩
theorem stat_65 : codeStat (Tryz.f65.body.getD .skip) = true := by kernel_rfl
theorem isFun_66 : IsFun Tryz.prog 66 Tryz.f66 := ⟨Tryz.func66, by kernel_rfl, by kernel_rfl⟩
theorem stat_66 : codeStat (Tryz.f66.body.getD .skip) = true := by kernel_rfl
theorem isFun_67 : IsFun Tryz.prog 67 Tryz.f67 := ⟨Tryz.func67, by kernel_rfl, by kernel_rfl⟩
theorem stat_67 : codeStat (Tryz.f67.body.getD .skip) = true := by kernel_rfl
theorem isFun_68 : IsFun Tryz.prog 68 Tryz.f68 := ⟨Tryz.func68, by kernel_rfl, by kernel_rfl⟩
theorem stat_68 : codeStat (Tryz.f68.body.getD .skip) = true := by kernel_rfl
theorem isFun_69 : IsFun Tryz.prog 69 Tryz.f69 := ⟨Tryz.func69, by kernel_rfl, by kernel_rfl⟩
theorem stat_69 : codeStat (Tryz.f69.body.getD .skip) = true := by kernel_rfl
noncomputable def tX (X : XE) : XE := fun f => match f with
  | 133 => some (.dat (fDat te X 400 Tryz.f133))
  | 157 => some (.dat (fDat te X 400 Tryz.f157))
  | 158 => some (.dat (fDat te X 400 Tryz.f158))
  | 179 => some (.dat (fDat te X 400 Tryz.f179))
  | 155 => some (.dat (fDat te X 400 Tryz.f155))
  | 178 => some (.dat (fDat te X 400 Tryz.f178))
  | 156 => some (.dat (fDat te X 400 Tryz.f156))
  | 153 => some (.dat (fDat te X 400 Tryz.f153))
  | 154 => some (.dat (fDat te X 400 Tryz.f154))
  | 132 => some (.dat (fDat te X 400 Tryz.f132))
  | 134 => some (.dat (fDat te X 400 Tryz.f134))
  | 159 => some (.dat (fDat te X 400 Tryz.f159))
  | 102 => some (.dat (fDat te X 400 Tryz.f102))
  | 127 => some (.dat (fDat te X 400 Tryz.f127))
  | 131 => some (.dat (fDat te X 400 Tryz.f131))
  | 126 => some (.dat (fDat te X 400 Tryz.f126))
  | 100 => some (.dat (fDat te X 400 Tryz.f100))
  | 128 => some (.dat (fDat te X 400 Tryz.f128))
  | 96 => some (.dat (fDat te X 400 Tryz.f96))
  | 99 => some (.dat (fDat te X 400 Tryz.f99))
  | 98 => some (.dat (fDat te X 400 Tryz.f98))
  | 105 => some (.dat (fDat te X 400 Tryz.f105))
  | 97 => some (.dat (fDat te X 400 Tryz.f97))
  | 95 => some (.dat (fDat te X 400 Tryz.f95))
  | 21 => some (.dat (fDat te X 400 Tryz.f21))
  | 18 => some (.dat (fDat te X 400 Tryz.f18))
  | 29 => some (.dat (fDat te X 400 Tryz.f29))
  | 56 => some (.dat (fDat te X 400 Tryz.f56))
  | 57 => some (.dat (fDat te X 400 Tryz.f57))
  | 88 => some (.dat (fDat te X 400 Tryz.f88))
  | 43 => some (.dat (fDat te X 400 Tryz.f43))
  | 54 => some (.dat (fDat te X 400 Tryz.f54))
  | 40 => some (.dat (fDat te X 400 Tryz.f40))
  | 63 => some (.dat (fDat te X 400 Tryz.f63))
  | 28 => some (.dat (fDat te X 400 Tryz.f28))
  | 55 => some (.dat (fDat te X 400 Tryz.f55))
  | 31 => some (.dat (fDat te X 400 Tryz.f31))
  | 17 => some (.dat (fDat te X 400 Tryz.f17))
  | 26 => some (.dat (fDat te X 400 Tryz.f26))
  | 41 => some (.dat (fDat te X 400 Tryz.f41))
  | 24 => some (.dat (fDat te X 400 Tryz.f24))
  | 103 => some (.dat (fDat te X 400 Tryz.f103))
  | 104 => some (.dat (fDat te X 400 Tryz.f104))
  | 64 => some (.dat (fDat te X 400 Tryz.f64))
  | 101 => some (.dat (fDat te X 400 Tryz.f101))
  | 90 => some (.dat (fDat te X 400 Tryz.f90))
  | 121 => some (.dat (fDat te X 400 Tryz.f121))
  | 92 => some (.dat (fDat te X 400 Tryz.f92))
  | 93 => some (.dat (fDat te X 400 Tryz.f93))
  | 94 => some (.dat (fDat te X 400 Tryz.f94))
  | 125 => some (.dat (fDat te X 400 Tryz.f125))
  | 124 => some (.dat (fDat te X 400 Tryz.f124))
  | 147 => some (.dat (fDat te X 400 Tryz.f147))
  | 123 => some (.dat (fDat te X 400 Tryz.f123))
  | 145 => some (.dat (fDat te X 400 Tryz.f145))
  | 166 => some (.dat (fDat te X 400 Tryz.f166))
  | 53 => some (.dat (fDat te X 400 Tryz.f53))
  | 87 => some (.dat (fDat te X 400 Tryz.f87))
  | 62 => some (.dat (fDat te X 400 Tryz.f62))
  | 61 => some (.dat (fDat te X 400 Tryz.f61))
  | 110 => some (.dat (fDat te X 400 Tryz.f110))
  | 135 => some (.dat (fDat te X 400 Tryz.f135))
  | 136 => some (.dat (fDat te X 400 Tryz.f136))
  | 109 => some (.dat (fDat te X 400 Tryz.f109))
  | 107 => some (.dat (fDat te X 400 Tryz.f107))
  | 139 => some (.dat (fDat te X 400 Tryz.f139))
  | 161 => some (.dat (fDat te X 400 Tryz.f161))
  | 183 => some (.dat (fDat te X 400 Tryz.f183))
  | 182 => some (.dat (fDat te X 400 Tryz.f182))
  | 184 => some (.dat (fDat te X 400 Tryz.f184))
  | 191 => some (.dat (fDat te X 400 Tryz.f191))
  | 20 => some (.dat (fDat te X 400 Tryz.f20))
  | 36 => some (.dat (fDat te X 400 Tryz.f36))
  | 33 => some (.dat (fDat te X 400 Tryz.f33))
  | 59 => some (.dat (fDat te X 400 Tryz.f59))
  | 35 => some (.dat (fDat te X 400 Tryz.f35))
  | 148 => some (.gen (fFun te X 400 Tryz.f148))
  | 130 => some (.dat (fDat te (tA X) 400 Tryz.f130))
  | 129 => some (.dat (fDat te (tW X) 400 Tryz.f129))
  | 42 => some (.gen (fFun te X 400 Tryz.f42))
  | 65 => some (.gen (fFun te X 400 Tryz.f65))
  | 66 => some (.gen (fFun te X 400 Tryz.f66))
  | 67 => some (.gen (fFun te X 400 Tryz.f67))
  | 68 => some (.gen (fFun te X 400 Tryz.f68))
  | 69 => some (.gen (fFun te X 400 Tryz.f69))
  | 173 => some (.gen (xClone 8 104))
  | 160 => some (.gen (xClone 2 24))
  | 180 => some (.gen (xClone 2 32))
  | 181 => some (.gen (xClone 1 1))
  | 149 => some (.gen (xLend (xIns 8 104) 8))
  | 150 => some (.gen (xLend (xIns 2 24) 2))
  | 151 => some (.gen (xLend xDel 2))
  | 152 => some (.gen (xLend xDel 8))
  | 172 => some (.dat (xCount))
  | 186 => some (.dat (xIndexB))
  | _ => none
theorem tX_sound {X : XE} (hX : Sound Tryz.prog X.env) : Sound Tryz.prog (tX X).env := by
    intro f sp h
    unfold XE.env at h
    generalize hx : tX X f = ox at h
    unfold tX at hx
    split at hx
    · subst hx; cases h; exact fDat_sound te_ok hX mixed isFun_133 stat_133 400
    · subst hx; cases h; exact fDat_sound te_ok hX mixed isFun_157 stat_157 400
    · subst hx; cases h; exact fDat_sound te_ok hX mixed isFun_158 stat_158 400
    · subst hx; cases h; exact fDat_sound te_ok hX mixed isFun_179 stat_179 400
    · subst hx; cases h; exact fDat_sound te_ok hX mixed isFun_155 stat_155 400
    · subst hx; cases h; exact fDat_sound te_ok hX mixed isFun_178 stat_178 400
    · subst hx; cases h; exact fDat_sound te_ok hX mixed isFun_156 stat_156 400
    · subst hx; cases h; exact fDat_sound te_ok hX mixed isFun_153 stat_153 400
    · subst hx; cases h; exact fDat_sound te_ok hX mixed isFun_154 stat_154 400
    · subst hx; cases h; exact fDat_sound te_ok hX mixed isFun_132 stat_132 400
    · subst hx; cases h; exact fDat_sound te_ok hX mixed isFun_134 stat_134 400
    · subst hx; cases h; exact fDat_sound te_ok hX mixed isFun_159 stat_159 400
    · subst hx; cases h; exact fDat_sound te_ok hX mixed isFun_102 stat_102 400
    · subst hx; cases h; exact fDat_sound te_ok hX mixed isFun_127 stat_127 400
    · subst hx; cases h; exact fDat_sound te_ok hX mixed isFun_131 stat_131 400
    · subst hx; cases h; exact fDat_sound te_ok hX mixed isFun_126 stat_126 400
    · subst hx; cases h; exact fDat_sound te_ok hX mixed isFun_100 stat_100 400
    · subst hx; cases h; exact fDat_sound te_ok hX mixed isFun_128 stat_128 400
    · subst hx; cases h; exact fDat_sound te_ok hX mixed isFun_96 stat_96 400
    · subst hx; cases h; exact fDat_sound te_ok hX mixed isFun_99 stat_99 400
    · subst hx; cases h; exact fDat_sound te_ok hX mixed isFun_98 stat_98 400
    · subst hx; cases h; exact fDat_sound te_ok hX mixed isFun_105 stat_105 400
    · subst hx; cases h; exact fDat_sound te_ok hX mixed isFun_97 stat_97 400
    · subst hx; cases h; exact fDat_sound te_ok hX mixed isFun_95 stat_95 400
    · subst hx; cases h; exact fDat_sound te_ok hX mixed isFun_21 stat_21 400
    · subst hx; cases h; exact fDat_sound te_ok hX mixed isFun_18 stat_18 400
    · subst hx; cases h; exact fDat_sound te_ok hX mixed isFun_29 stat_29 400
    · subst hx; cases h; exact fDat_sound te_ok hX mixed isFun_56 stat_56 400
    · subst hx; cases h; exact fDat_sound te_ok hX mixed isFun_57 stat_57 400
    · subst hx; cases h; exact fDat_sound te_ok hX mixed isFun_88 stat_88 400
    · subst hx; cases h; exact fDat_sound te_ok hX mixed isFun_43 stat_43 400
    · subst hx; cases h; exact fDat_sound te_ok hX mixed isFun_54 stat_54 400
    · subst hx; cases h; exact fDat_sound te_ok hX mixed isFun_40 stat_40 400
    · subst hx; cases h; exact fDat_sound te_ok hX mixed isFun_63 stat_63 400
    · subst hx; cases h; exact fDat_sound te_ok hX mixed isFun_28 stat_28 400
    · subst hx; cases h; exact fDat_sound te_ok hX mixed isFun_55 stat_55 400
    · subst hx; cases h; exact fDat_sound te_ok hX mixed isFun_31 stat_31 400
    · subst hx; cases h; exact fDat_sound te_ok hX mixed isFun_17 stat_17 400
    · subst hx; cases h; exact fDat_sound te_ok hX mixed isFun_26 stat_26 400
    · subst hx; cases h; exact fDat_sound te_ok hX mixed isFun_41 stat_41 400
    · subst hx; cases h; exact fDat_sound te_ok hX mixed isFun_24 stat_24 400
    · subst hx; cases h; exact fDat_sound te_ok hX mixed isFun_103 stat_103 400
    · subst hx; cases h; exact fDat_sound te_ok hX mixed isFun_104 stat_104 400
    · subst hx; cases h; exact fDat_sound te_ok hX mixed isFun_64 stat_64 400
    · subst hx; cases h; exact fDat_sound te_ok hX mixed isFun_101 stat_101 400
    · subst hx; cases h; exact fDat_sound te_ok hX mixed isFun_90 stat_90 400
    · subst hx; cases h; exact fDat_sound te_ok hX mixed isFun_121 stat_121 400
    · subst hx; cases h; exact fDat_sound te_ok hX mixed isFun_92 stat_92 400
    · subst hx; cases h; exact fDat_sound te_ok hX mixed isFun_93 stat_93 400
    · subst hx; cases h; exact fDat_sound te_ok hX mixed isFun_94 stat_94 400
    · subst hx; cases h; exact fDat_sound te_ok hX mixed isFun_125 stat_125 400
    · subst hx; cases h; exact fDat_sound te_ok hX mixed isFun_124 stat_124 400
    · subst hx; cases h; exact fDat_sound te_ok hX mixed isFun_147 stat_147 400
    · subst hx; cases h; exact fDat_sound te_ok hX mixed isFun_123 stat_123 400
    · subst hx; cases h; exact fDat_sound te_ok hX mixed isFun_145 stat_145 400
    · subst hx; cases h; exact fDat_sound te_ok hX mixed isFun_166 stat_166 400
    · subst hx; cases h; exact fDat_sound te_ok hX mixed isFun_53 stat_53 400
    · subst hx; cases h; exact fDat_sound te_ok hX mixed isFun_87 stat_87 400
    · subst hx; cases h; exact fDat_sound te_ok hX mixed isFun_62 stat_62 400
    · subst hx; cases h; exact fDat_sound te_ok hX mixed isFun_61 stat_61 400
    · subst hx; cases h; exact fDat_sound te_ok hX mixed isFun_110 stat_110 400
    · subst hx; cases h; exact fDat_sound te_ok hX mixed isFun_135 stat_135 400
    · subst hx; cases h; exact fDat_sound te_ok hX mixed isFun_136 stat_136 400
    · subst hx; cases h; exact fDat_sound te_ok hX mixed isFun_109 stat_109 400
    · subst hx; cases h; exact fDat_sound te_ok hX mixed isFun_107 stat_107 400
    · subst hx; cases h; exact fDat_sound te_ok hX mixed isFun_139 stat_139 400
    · subst hx; cases h; exact fDat_sound te_ok hX mixed isFun_161 stat_161 400
    · subst hx; cases h; exact fDat_sound te_ok hX mixed isFun_183 stat_183 400
    · subst hx; cases h; exact fDat_sound te_ok hX mixed isFun_182 stat_182 400
    · subst hx; cases h; exact fDat_sound te_ok hX mixed isFun_184 stat_184 400
    · subst hx; cases h; exact fDat_sound te_ok hX mixed isFun_191 stat_191 400
    · subst hx; cases h; exact fDat_sound te_ok hX mixed isFun_20 stat_20 400
    · subst hx; cases h; exact fDat_sound te_ok hX mixed isFun_36 stat_36 400
    · subst hx; cases h; exact fDat_sound te_ok hX mixed isFun_33 stat_33 400
    · subst hx; cases h; exact fDat_sound te_ok hX mixed isFun_59 stat_59 400
    · subst hx; cases h; exact fDat_sound te_ok hX mixed isFun_35 stat_35 400
    · subst hx; cases h; exact fGen_sound te_ok hX mixed isFun_148 stat_148 400
    · subst hx; cases h; exact fDat_sound te_ok (tA_sound hX) mixed isFun_130 stat_130 400
    · subst hx; cases h; exact fDat_sound te_ok (tW_sound hX) mixed isFun_129 stat_129 400
    · subst hx; cases h; exact fGen_sound te_ok hX mixed isFun_42 stat_42 400
    · subst hx; cases h; exact fGen_sound te_ok hX mixed isFun_65 stat_65 400
    · subst hx; cases h; exact fGen_sound te_ok hX mixed isFun_66 stat_66 400
    · subst hx; cases h; exact fGen_sound te_ok hX mixed isFun_67 stat_67 400
    · subst hx; cases h; exact fGen_sound te_ok hX mixed isFun_68 stat_68 400
    · subst hx; cases h; exact fGen_sound te_ok hX mixed isFun_69 stat_69 400
    · subst hx; cases h; exact clone_173
    · subst hx; cases h; exact clone_160
    · subst hx; cases h; exact clone_180
    · subst hx; cases h; exact clone_181
    · subst hx; cases h; exact insert_149
    · subst hx; cases h; exact insert_150
    · subst hx; cases h; exact delete_151
    · subst hx; cases h; exact delete_152
    · subst hx; cases h; exact ext_172
    · subst hx; cases h; exact ext_186
    · subst hx; cases h
noncomputable def X : Nat → XE
  | 0 => fun _ => none
  | n + 1 => tX (X n)
theorem X_sound : ∀ n, Sound Tryz.prog (X n).env
  | 0 => none_sound
  | n + 1 => tX_sound (X_sound n)
end Go.Proofs.YtdojencjbmahpaaGreatDoor
