/-
  Texts of the proof, put together: GreatDoorPl, GreatDoorPa, GreatDoorPb, GreatDoorPc, GreatDoorPd.
-/
import Derived.Test.YtdojencjbmahpaaGreatDoorGd
import Derived.Lib.IndexLaws
import Derived.Lib.Strings
import Derived.IntWalk
import Derived.Test.YtdojencjbmahpaaGreatDoorGe
/-
  Of texts, plainly: a text cut at each '/', and what its parts make together. No program in sight.
-/
section
namespace Go.Proofs.YtdojencjbmahpaaGreatDoor
open Go.Rf
set_option linter.unusedVariables false
set_option linter.unusedSimpArgs false

def ix (s : ByteArray) (c : Int) : Int := Go.Lib.indexByte s.data.toList c.toNat.toUInt8
def cn (s : ByteArray) (c : Int) : Int := ((Go.Lib.countByte s.data.toList c.toNat.toUInt8 : Nat) : Int)

/-- Bytes, cut at each of one byte. -/
def sp (c : UInt8) : List UInt8 → List (List UInt8)
  | [] => [[]]
  | b :: l => if b = c then [] :: sp c l else ((b :: (sp c l).headD []) :: (sp c l).tail)
theorem sp_cons_eq (c : UInt8) (l : List UInt8) : sp c (c :: l) = [] :: sp c l := by rw [sp, if_pos rfl]
theorem sp_cons_ne (c b : UInt8) (l : List UInt8) (h : b ≠ c) : sp c (b :: l) = ((b :: (sp c l).headD []) :: (sp c l).tail) := by rw [sp, if_neg h]
theorem sp_ne (c : UInt8) : ∀ l, ∃ h t, sp c l = h :: t
  | [] => ⟨[], [], rfl⟩
  | b :: l => by unfold sp; split <;> exact ⟨_, _, rfl⟩
theorem sp_len (c : UInt8) : ∀ l, (sp c l).length = l.count c + 1
  | [] => rfl
  | b :: l => by
    obtain ⟨h, t, e⟩ := sp_ne c l
    have ih := sp_len c l
    unfold sp
    by_cases hb : b = c
    · subst hb; simp [ih]
    · rw [if_neg hb, List.count_cons_of_ne (by simpa using hb)]
      rw [e] at ih ⊢
      simpa using ih
/-- Up to the first of the byte. -/
theorem sp_hit (c : UInt8) : ∀ (l r : List UInt8), (∀ x ∈ l, x ≠ c) → sp c (l ++ c :: r) = l :: sp c r
  | [], r, _ => sp_cons_eq c r
  | b :: l, r, h => by
    show sp c (b :: (l ++ c :: r)) = _
    rw [sp_cons_ne c b _ (h b (by simp)), sp_hit c l r (fun x hx => h x (by simp [hx]))]
    rfl
theorem sp_miss (c : UInt8) : ∀ (l : List UInt8), (∀ x ∈ l, x ≠ c) → sp c l = [l]
  | [], _ => rfl
  | b :: l, h => by
    rw [sp_cons_ne c b _ (h b (by simp)), sp_miss c l (fun x hx => h x (by simp [hx]))]
    rfl
theorem split_at {l : List UInt8} {c : UInt8} {o : Nat} (h : l[o]? = some c) : l = l.take o ++ c :: l.drop (o + 1) := by
  obtain ⟨h1, h2⟩ := List.getElem?_eq_some_iff.1 h
  rw [← h2, List.getElem_cons_drop, List.take_append_drop]
theorem notin_take {l : List UInt8} {c : UInt8} {o : Nat} (h : ∀ k, k < o → l[k]? ≠ some c) : ∀ x ∈ l.take o, x ≠ c := by
  intro x hx he
  subst he
  obtain ⟨k, hk, e⟩ := List.getElem_of_mem hx
  have hk' := hk
  rw [List.length_take] at hk'
  refine h k (by omega) ?_
  rw [List.getElem_take] at e
  rw [List.getElem?_eq_getElem (by omega), e]
theorem sp_ix_hit {l : List UInt8} {c : UInt8} {o : Nat} (h : Go.Lib.indexByte l c = o) : o < l.length ∧ sp c l = l.take o :: sp c (l.drop (o + 1)) := by
  obtain ⟨h1, h2⟩ := Go.Lib.indexByte_some h
  refine ⟨(List.getElem?_eq_some_iff.1 h1).1, ?_⟩
  conv => lhs; rw [split_at h1]
  exact sp_hit c _ _ (notin_take h2)
theorem sp_ix_miss {l : List UInt8} {c : UInt8} (h : Go.Lib.indexByte l c = -1) : sp c l = [l] := by
  have h1 := Go.Lib.indexByte_none h
  refine sp_miss c l fun x hx he => ?_
  subst he
  obtain ⟨k, hk, e⟩ := List.getElem_of_mem hx
  exact h1 k (by rw [List.getElem?_eq_getElem hk, e])

def ofL (l : List UInt8) : ByteArray := ⟨l.toArray⟩
theorem ofL_self (s : ByteArray) : ofL s.data.toList = s := rfl
theorem ofL_data (l : List UInt8) : (ofL l).data.toList = l := rfl
theorem ofL_size (l : List UInt8) : (ofL l).size = l.length := rfl
theorem extract_ofL (s : ByteArray) (a b : Nat) : s.extract a b = ofL ((s.data.toList.drop a).take (b - a)) := by
  rw [← Go.Lib.extract_data, ofL_self]
theorem size_data (s : ByteArray) : s.size = s.data.toList.length := rfl

/-- Rows of texts. -/
def rowsT (l : List ByteArray) : List (List AV) := l.map fun s => [.str s]
theorem rowsT_len (l : List ByteArray) : (rowsT l).length = l.length := by simp [rowsT]
def rowsL (l : List (List UInt8)) : List (List AV) := l.map fun s => [.str (ofL s)]
theorem rowsL_len (l : List (List UInt8)) : (rowsL l).length = l.length := by simp [rowsL]
def spB (s : ByteArray) : List ByteArray := (sp 47 s.data.toList).map ofL
theorem rowsT_spB (s : ByteArray) : rowsT (spB s) = rowsL (sp 47 s.data.toList) := by simp [rowsT, rowsL, spB]

/-- One part of a path more; nothing: too long. -/
def stepP (l : List ByteArray) (p : ByteArray) : Option (List ByteArray) :=
  if (p.toList == (⟨#[]⟩ : ByteArray).toList) = true then some l
  else if (p.toList == (⟨#[46]⟩ : ByteArray).toList) = true then some l
  else if (p.toList == (⟨#[46, 46]⟩ : ByteArray).toList) = true then some (l.take (l.length - 1))
  else if 24 < p.size ∨ 16 ≤ l.length then none else some (l ++ [p])
def foldP : List ByteArray → List ByteArray → Option (List ByteArray)
  | [], l => some l
  | p :: ps, l => match stepP l p with
    | some m => foldP ps m
    | none => none
/-- What a path comes to: its names, an error. -/
def parseP (s : ByteArray) : List ByteArray × Int :=
  if ¬ (1 ≤ s.size ∧ s.data.toList[0]? = some 47) then ([], 1)
  else if (0 : UInt8) ∈ s.data.toList then ([], 1)
  else if 120 < s.size then ([], 9)
  else match foldP (spB s) [] with
    | some l => (l, 0)
    | none => ([], 9)
def gParse : List AV → AV
  | [.str s] => .tup [.sl 1 false (rowsT (parseP s).1), .int .i64 (parseP s).2]
  | _ => .junk
def CParse : List AV → Prop
  | [.str s] => s.size ≤ 1000000000
  | _ => False

theorem stepP_len {l m : List ByteArray} {p : ByteArray} (h : stepP l p = some m) (hl : l.length ≤ 16) : m.length ≤ 16 := by
  unfold stepP at h
  split at h
  · cases h; exact hl
  · split at h
    · cases h; exact hl
    · split at h
      · cases h; rw [List.length_take]; omega
      · split at h
        · cases h
        · cases h; simp; omega
end Go.Proofs.YtdojencjbmahpaaGreatDoor
end
/-
  Of a text: is a byte in it, where, how often; does it begin with '/': the contracts of the library's functions.
-/
section
namespace Go.Proofs.YtdojencjbmahpaaGreatDoor
open Go.Rf
set_option maxRecDepth 100000
set_option linter.unusedVariables false
set_option linter.unusedSimpArgs false
def CSB : List AV → Prop
  | [.str _, .int .u8 _] => True
  | _ => False
def gIx : List AV → AV
  | [.str s, .int .u8 c] => .int .i64 (ix s c)
  | _ => .junk
def gCn : List AV → AV
  | [.str s, .int .u8 c] => .int .i64 (cn s c)
  | _ => .junk
def CI : List AV → Prop
  | [.str _, .str t] => t = ⟨#[47]⟩ ∨ t = ⟨#[0]⟩
  | _ => False
def gI : List AV → AV
  | [.str s, .str t] => .int .i64 (ix s (sb t 0))
  | _ => .junk
def gC : List AV → AV
  | [.str s, .str t] => .int .i64 (cn s (sb t 0))
  | _ => .junk
def hp (s : ByteArray) : Bool := decide (1 ≤ s.size ∧ s.data.toList[0]? = some 47)
def CH : List AV → Prop
  | [.str _, .str t] => t = ⟨#[47]⟩
  | _ => False
def gH : List AV → AV
  | [.str s, _] => .bool (hp s)
  | _ => .junk
def C0 : List AV → Prop
  | [.str _, .str t] => t = ⟨#[0]⟩
  | _ => False
def gHas : List AV → AV
  | [.str s, _] => .bool (leI 0 (ix s 0))
  | _ => .junk
theorem fn_of_dat {P : Program} {f : FuncId} {g : List AV → Option (AV × Ent)} {C : List AV → Prop} {h : List AV → AV} (hs : SpecSound P f (XS.spec (.dat g))) (hg : ∀ xs, C xs → g xs = some (h xs, .none)) : SpecSound P f (.fn C h) := by
  rintro w S ρ xs args Φ hS hargs ⟨hC, hΦ⟩
  exact hs w S ρ xs args Φ hS hargs ⟨_, _, hg xs hC, hΦ⟩
theorem fn186 : SpecSound Tryz.prog 186 (.fn CSB gIx) := fn_of_dat ext_186 (by
  intro xs h
  unfold CSB at h
  split at h
  · rfl
  · cases h)
theorem fn172 : SpecSound Tryz.prog 172 (.fn CSB gCn) := fn_of_dat ext_172 (by
  intro xs h
  unfold CSB at h
  split at h
  · rfl
  · cases h)
def GP1 : GE := fun f => match f with
  | 186 => some (.fn CSB gIx)
  | 172 => some (.fn CSB gCn)
  | _ => none
theorem GP1_sound : Sound Tryz.prog GP1 := by
  intro f sp h
  unfold GP1 at h
  split at h
  · cases h; exact fn186
  · cases h; exact fn172
  · cases h
theorem isFun_166 : IsFun Tryz.prog 166 Tryz.f166 := ⟨Tryz.func166, by kernel_rfl, by kernel_rfl⟩
theorem isFun_145 : IsFun Tryz.prog 145 Tryz.f145 := ⟨Tryz.func145, by kernel_rfl, by kernel_rfl⟩
theorem isFun_124 : IsFun Tryz.prog 124 Tryz.f124 := ⟨Tryz.func124, by kernel_rfl, by kernel_rfl⟩
theorem isFun_123 : IsFun Tryz.prog 123 Tryz.f123 := ⟨Tryz.func123, by kernel_rfl, by kernel_rfl⟩
theorem isFun_147 : IsFun Tryz.prog 147 Tryz.f147 := ⟨Tryz.func147, by kernel_rfl, by kernel_rfl⟩
theorem isFun_92 : IsFun Tryz.prog 92 Tryz.f92 := ⟨Tryz.func92, by kernel_rfl, by kernel_rfl⟩
theorem isFun_93 : IsFun Tryz.prog 93 Tryz.f93 := ⟨Tryz.func93, by kernel_rfl, by kernel_rfl⟩
theorem v166 (s : ByteArray) (c : Int) (Φ : AV → List Ent → Prop) : wFunS te GP1 Tryz.f166 [(.str s), (.int .u8 c)] [] Φ = (CSB [(.str s), (.int .u8 c)] ∧ (Φ (.int .i64 (ix s c)) [])) := by kernel_rfl
theorem fn166 : SpecSound Tryz.prog 166 (.fn CSB gIx) := dat_soundS te_ok GP1_sound mixed isFun_166 (by
  rintro xs Φ ⟨hC, h⟩
  unfold CSB at hC
  split at hC
  · rw [v166]; exact ⟨trivial, h⟩
  · cases hC)
def GP2 : GE := fun f => match f with
  | 166 => some (.fn CSB gIx)
  | _ => none
theorem GP2_sound : Sound Tryz.prog GP2 := by
  intro f sp h
  unfold GP2 at h
  split at h
  · cases h; exact fn166
  · cases h
theorem v145a (s : ByteArray) (Φ : AV → List Ent → Prop) : wFunS te GP2 Tryz.f145 [(.str s), (.str ⟨#[47]⟩)] [] Φ = (ifB ((⟨#[47]⟩ : ByteArray).toList == s.toList) (Φ (.int .i64 0) []) ((0 ≤ (0 : Int) ∧ (0 : Int) < 1) ∧ (CSB [(.str s), (.int .u8 47)] ∧ (Φ (.int .i64 (ix s 47)) [])))) := by kernel_rfl
theorem v145b (s : ByteArray) (Φ : AV → List Ent → Prop) : wFunS te GP2 Tryz.f145 [(.str s), (.str ⟨#[0]⟩)] [] Φ = (ifB ((⟨#[0]⟩ : ByteArray).toList == s.toList) (Φ (.int .i64 0) []) ((0 ≤ (0 : Int) ∧ (0 : Int) < 1) ∧ (CSB [(.str s), (.int .u8 0)] ∧ (Φ (.int .i64 (ix s 0)) [])))) := by kernel_rfl
theorem ne_one (s : ByteArray) (c : UInt8) (h : ((⟨#[c]⟩ : ByteArray).toList == s.toList) = true) : ix s c.toNat = 0 := by
  have h' := eq_of_beq h
  rw [Go.Lib.toList_data, Go.Lib.toList_data] at h'
  unfold ix
  rw [← h']
  simp [Go.Lib.indexByte]
theorem fn145 : SpecSound Tryz.prog 145 (.fn CI gI) := dat_soundS te_ok GP2_sound mixed isFun_145 (by
  rintro xs Φ ⟨hC, h⟩
  unfold CI at hC
  split at hC
  · rename_i s t
    rcases hC with rfl | rfl
    · rw [v145a]
      refine ifB_both (fun hb => ?_) (fun _ => ⟨by omega, trivial, h⟩)
      have := ne_one s 47 hb
      have h' : Φ (.int .i64 (ix s 47)) .none := h
      rw [show ix s 47 = 0 from this] at h'
      exact h'
    · rw [v145b]
      refine ifB_both (fun hb => ?_) (fun _ => ⟨by omega, trivial, h⟩)
      have := ne_one s 0 hb
      have h' : Φ (.int .i64 (ix s 0)) .none := h
      rw [show ix s 0 = 0 from this] at h'
      exact h'
  · cases hC)
def GP3 : GE := fun f => match f with
  | 145 => some (.fn CI gI)
  | 172 => some (.fn CSB gCn)
  | _ => none
theorem GP3_sound : Sound Tryz.prog GP3 := by
  intro f sp h
  unfold GP3 at h
  split at h
  · cases h; exact fn145
  · cases h; exact fn172
  · cases h
theorem v124a (s : ByteArray) (Φ : AV → List Ent → Prop) : wFunS te GP3 Tryz.f124 [(.str s), (.str ⟨#[47]⟩)] [] Φ = (CI [(.str s), (.str ⟨#[47]⟩)] ∧ (Φ (.int .i64 (ix s 47)) [])) := by kernel_rfl
theorem v124b (s : ByteArray) (Φ : AV → List Ent → Prop) : wFunS te GP3 Tryz.f124 [(.str s), (.str ⟨#[0]⟩)] [] Φ = (CI [(.str s), (.str ⟨#[0]⟩)] ∧ (Φ (.int .i64 (ix s 0)) [])) := by kernel_rfl
theorem v147 (s : ByteArray) (Φ : AV → List Ent → Prop) : wFunS te GP3 Tryz.f147 [(.str s), (.str ⟨#[47]⟩)] [] Φ = ((0 ≤ (0 : Int) ∧ (0 : Int) < 1) ∧ (CSB [(.str s), (.int .u8 47)] ∧ (Φ (.int .i64 (cn s 47)) []))) := by kernel_rfl
theorem v123 (s : ByteArray) (Φ : AV → List Ent → Prop) : wFunS te GP3 Tryz.f123 [(.str s), (.str ⟨#[47]⟩)] [] Φ = (ifB (leI 1 (s.size : Int)) ((0 ≤ (0 : Int) ∧ (0 : Int) ≤ (1 : Int) ∧ (1 : Int) ≤ (s.size : Int)) ∧ (Φ (.bool ((s.extract ((0 : Int)).toNat ((1 : Int)).toNat).toList == (⟨#[47]⟩ : ByteArray).toList)) [])) (Φ (.bool false) [])) := by kernel_rfl
theorem fn124 : SpecSound Tryz.prog 124 (.fn CI gI) := dat_soundS te_ok GP3_sound mixed isFun_124 (by
  rintro xs Φ ⟨hC, h⟩
  unfold CI at hC
  split at hC
  · rename_i s t
    rcases hC with rfl | rfl
    · rw [v124a]; exact ⟨.inl rfl, h⟩
    · rw [v124b]; exact ⟨.inr rfl, h⟩
  · cases hC)
theorem fn147 : SpecSound Tryz.prog 147 (.fn CH gC) := dat_soundS te_ok GP3_sound mixed isFun_147 (by
  rintro xs Φ ⟨hC, h⟩
  unfold CH at hC
  split at hC
  · rename_i s t
    subst hC
    rw [v147]; exact ⟨by omega, trivial, h⟩
  · cases hC)
theorem hp_eq (s : ByteArray) (h : 1 ≤ s.size) : ((s.extract ((0 : Int)).toNat ((1 : Int)).toNat).toList == (⟨#[47]⟩ : ByteArray).toList) = hp s := by
  rw [Go.Lib.toList_data, Go.Lib.toList_data, Go.Lib.extract_data]
  unfold hp
  show (List.take 1 (List.drop 0 s.data.toList) == [47]) = _
  rw [size_data] at h ⊢
  generalize s.data.toList = l at h ⊢
  cases l with
  | nil => simp at h
  | cons b l => simp; rfl
theorem fn123 : SpecSound Tryz.prog 123 (.fn CH gH) := dat_soundS te_ok GP3_sound mixed isFun_123 (by
  rintro xs Φ ⟨hC, h⟩
  unfold CH at hC
  split at hC
  · rename_i s t
    subst hC
    have h' : Φ (.bool (hp s)) .none := h
    rw [v123]
    refine ifB_both (fun hb => ?_) (fun hb => ?_)
    · have hb' : 1 ≤ s.size := Nat.ble_eq.mp hb
      refine ⟨by omega, ?_⟩
      rw [hp_eq s hb']
      exact h'
    · have hb' : ¬ 1 ≤ s.size := fun hl => by
        have : leI 1 (s.size : Int) = true := Nat.ble_eq.mpr hl
        rw [this] at hb; cases hb
      have : hp s = false := by unfold hp; simp [hb']
      rw [this] at h'
      exact h'
  · cases hC)
def GP4 : GE := fun f => match f with
  | 123 => some (.fn CH gH)
  | 124 => some (.fn CI gI)
  | _ => none
theorem GP4_sound : Sound Tryz.prog GP4 := by
  intro f sp h
  unfold GP4 at h
  split at h
  · cases h; exact fn123
  · cases h; exact fn124
  · cases h
theorem v92 (s : ByteArray) (Φ : AV → List Ent → Prop) : wFunS te GP4 Tryz.f92 [(.str s), (.str ⟨#[47]⟩)] [] Φ = (CH [(.str s), (.str ⟨#[47]⟩)] ∧ (Φ (.bool (hp s)) [])) := by kernel_rfl
theorem v93 (s : ByteArray) (Φ : AV → List Ent → Prop) : wFunS te GP4 Tryz.f93 [(.str s), (.str ⟨#[0]⟩)] [] Φ = (CI [(.str s), (.str ⟨#[0]⟩)] ∧ (Φ (.bool (leI 0 (ix s 0))) [])) := by kernel_rfl
theorem fn92 : SpecSound Tryz.prog 92 (.fn CH gH) := dat_soundS te_ok GP4_sound mixed isFun_92 (by
  rintro xs Φ ⟨hC, h⟩
  unfold CH at hC
  split at hC
  · rename_i s t
    subst hC
    rw [v92]; exact ⟨rfl, h⟩
  · cases hC)
theorem fn93 : SpecSound Tryz.prog 93 (.fn C0 gHas) := dat_soundS te_ok GP4_sound mixed isFun_93 (by
  rintro xs Φ ⟨hC, h⟩
  unfold C0 at hC
  split at hC
  · rename_i s t
    subst hC
    rw [v93]; exact ⟨.inr rfl, h⟩
  · cases hC)
end Go.Proofs.YtdojencjbmahpaaGreatDoor
end
/-
  A text, cut at each '/': the contracts of strings.Split.
-/
section
namespace Go.Proofs.YtdojencjbmahpaaGreatDoor
open Go.Rf
set_option maxRecDepth 100000
set_option linter.unusedVariables false
set_option linter.unusedSimpArgs false
def GP5 : GE := fun f => match f with
  | 124 => some (.fn CI gI)
  | 147 => some (.fn CH gC)
  | _ => none
theorem GP5_sound : Sound Tryz.prog GP5 := by
  intro f sp h
  unfold GP5 at h
  split at h
  · cases h; exact fn124
  · cases h; exact fn147
  · cases h
theorem isFun_125 : IsFun Tryz.prog 125 Tryz.f125 := ⟨Tryz.func125, by kernel_rfl, by kernel_rfl⟩
theorem isFun_94 : IsFun Tryz.prog 94 Tryz.f94 := ⟨Tryz.func94, by kernel_rfl, by kernel_rfl⟩
theorem v125 (s : ByteArray) (Φ : AV → List Ent → Prop) : wFunS te GP5 Tryz.f125 [(.str s), (.str ⟨#[47]⟩), (.int .i64 0), (.int .i64 (-1))] [] Φ = (CH [(.str s), (.str ⟨#[47]⟩)] ∧ (((if (IntKind.i64.wrap ((s.size : Int) + 1)) < (IntKind.i64.wrap ((cn s 47) + 1)) then (IntKind.i64.wrap ((s.size : Int) + 1)) else (IntKind.i64.wrap ((cn s 47) + 1))) = (if (IntKind.i64.wrap ((s.size : Int) + 1)) < (IntKind.i64.wrap ((cn s 47) + 1)) then (IntKind.i64.wrap ((s.size : Int) + 1)) else (IntKind.i64.wrap ((cn s 47) + 1))) ∧ 0 ≤ (if (IntKind.i64.wrap ((s.size : Int) + 1)) < (IntKind.i64.wrap ((cn s 47) + 1)) then (IntKind.i64.wrap ((s.size : Int) + 1)) else (IntKind.i64.wrap ((cn s 47) + 1))) ∧ (if (IntKind.i64.wrap ((s.size : Int) + 1)) < (IntKind.i64.wrap ((cn s 47) + 1)) then (IntKind.i64.wrap ((s.size : Int) + 1)) else (IntKind.i64.wrap ((cn s 47) + 1))) * 16 ≤ 140737488355328) ∧ (wLoopS 0 (wCodeS te GP5 0 (bodyAt Tryz.f125 [false, false, false, false, false, false, false, false, true, true, true])) ⟨[(.str s), (.str ⟨#[47]⟩), (.int .i64 0), (.int .i64 (IntKind.i64.wrap ((if (IntKind.i64.wrap ((s.size : Int) + 1)) < (IntKind.i64.wrap ((cn s 47) + 1)) then (IntKind.i64.wrap ((s.size : Int) + 1)) else (IntKind.i64.wrap ((cn s 47) + 1))) - 1))), .junk, .junk, .junk, .junk, (.sl 0 true []), (.own 0 1 ((if (IntKind.i64.wrap ((s.size : Int) + 1)) < (IntKind.i64.wrap ((cn s 47) + 1)) then (IntKind.i64.wrap ((s.size : Int) + 1)) else (IntKind.i64.wrap ((cn s 47) + 1)))).toNat), (.int .i64 0), .junk, (.int .i64 (-1)), (.bool false), (.str ⟨#[47]⟩), (.bool false), .junk, .junk, .junk, (.int .i64 (-1)), (.bool true), (.str s), (.str ⟨#[47]⟩), (.int .i64 (cn s 47)), (.int .i64 (IntKind.i64.wrap ((cn s 47) + 1))), (.int .i64 (IntKind.i64.wrap ((cn s 47) + 1))), (.str s), (.int .i64 (s.size : Int)), (.int .i64 (IntKind.i64.wrap ((s.size : Int) + 1))), (.int .i64 (if (IntKind.i64.wrap ((s.size : Int) + 1)) < (IntKind.i64.wrap ((cn s 47) + 1)) then (IntKind.i64.wrap ((s.size : Int) + 1)) else (IntKind.i64.wrap ((cn s 47) + 1)))), (.int .i64 (if (IntKind.i64.wrap ((s.size : Int) + 1)) < (IntKind.i64.wrap ((cn s 47) + 1)) then (IntKind.i64.wrap ((s.size : Int) + 1)) else (IntKind.i64.wrap ((cn s 47) + 1)))), (.own 0 1 ((if (IntKind.i64.wrap ((s.size : Int) + 1)) < (IntKind.i64.wrap ((cn s 47) + 1)) then (IntKind.i64.wrap ((s.size : Int) + 1)) else (IntKind.i64.wrap ((cn s 47) + 1)))).toNat), (.int .i64 (if (IntKind.i64.wrap ((s.size : Int) + 1)) < (IntKind.i64.wrap ((cn s 47) + 1)) then (IntKind.i64.wrap ((s.size : Int) + 1)) else (IntKind.i64.wrap ((cn s 47) + 1)))), (.int .i64 (IntKind.i64.wrap ((if (IntKind.i64.wrap ((s.size : Int) + 1)) < (IntKind.i64.wrap ((cn s 47) + 1)) then (IntKind.i64.wrap ((s.size : Int) + 1)) else (IntKind.i64.wrap ((cn s 47) + 1))) - 1))), .junk, .junk, .junk, .junk, .junk, .junk, .junk, .junk, .junk, .junk, .junk, .junk, .junk, .junk, .junk, .junk, .junk, .junk, .junk, .junk, .junk, .junk, .junk, .junk, .junk, .junk, .junk, .junk, .junk, .junk, .junk, .junk], [(.arr true 1 1 none (List.replicate ((if (IntKind.i64.wrap ((s.size : Int) + 1)) < (IntKind.i64.wrap ((cn s 47) + 1)) then (IntKind.i64.wrap ((s.size : Int) + 1)) else (IntKind.i64.wrap ((cn s 47) + 1)))).toNat [(.str ⟨#[]⟩)]))]⟩ (blkQ 0 (seqQ (wCodeS te GP5 0 (bodyAt Tryz.f125 [false, false, false, false, false, false, false, false, false])) (endQ te Tryz.f125 Φ)))))) := by kernel_rfl
def t125 (r : ByteArray) (N : Int) (m : Nat) (i : Int) (es : List (List AV)) : St := ⟨[(.str r), (.str ⟨#[47]⟩), (.int .i64 0), (.int .i64 N), .junk, .junk, .junk, .junk, .junk, (.own 0 1 m), (.int .i64 i), .junk, .junk, .junk, .junk, .junk, .junk, .junk, .junk, .junk, .junk, .junk, .junk, .junk, .junk, .junk, .junk, .junk, .junk, .junk, .junk, .junk, .junk, .junk, .junk, .junk, .junk, .junk, .junk, .junk, .junk, .junk, .junk, .junk, .junk, .junk, .junk, .junk, .junk, .junk, .junk, .junk, .junk, .junk, .junk, .junk, .junk, .junk, .junk, .junk, .junk, .junk, .junk, .junk, .junk, .junk], [(.arr true 1 1 none es)]⟩
def k125 : List Bool := [true, true, true, true, false, false, false, false, false, true, true, false, false, false, false, false, false, false, false, false, false, false, false, false, false, false, false, false, false, false, false, false, false, false, false, false, false, false, false, false, false, false, false, false, false, false, false, false, false, false, false, false, false, false, false, false, false, false, false, false, false, false, false, false, false, false]
theorem b125 (r : ByteArray) (N : Int) (m : Nat) (i : Int) (es : List (List AV)) (Q : KontX) : wCodeS te GP5 0 (bodyAt Tryz.f125 [false, false, false, false, false, false, false, false, true, true, true]) (t125 r N m i es ) Q = (ifB (!leI N i) (CI [(.str r), (.str ⟨#[47]⟩)] ∧ (ifB (!leI 0 (ix r 47)) (Q (.exit 0) ⟨[(.str r), (.str ⟨#[47]⟩), (.int .i64 0), (.int .i64 N), .junk, .junk, .junk, .junk, .junk, (.own 0 1 m), (.int .i64 i), (.int .i64 (ix r 47)), .junk, .junk, .junk, .junk, .junk, .junk, .junk, .junk, .junk, .junk, .junk, .junk, .junk, .junk, .junk, .junk, .junk, .junk, .junk, .junk, .junk, .junk, (.int .i64 i), (.int .i64 N), (.bool (!leI N i)), (.str r), (.str ⟨#[47]⟩), (.int .i64 (ix r 47)), (.int .i64 (ix r 47)), (.bool (!leI 0 (ix r 47))), .junk, .junk, .junk, .junk, .junk, .junk, .junk, .junk, .junk, .junk, .junk, .junk, .junk, .junk, .junk, .junk, .junk, .junk, .junk, .junk, .junk, .junk, .junk, .junk], [(.arr true 1 1 none es)]⟩) ((0 ≤ (0 : Int) ∧ (0 : Int) ≤ (IntKind.i64.wrap ((ix r 47) + 0)) ∧ (IntKind.i64.wrap ((ix r 47) + 0)) ≤ (r.size : Int)) ∧ ((0 ≤ i ∧ i < (m : Int)) ∧ ((1 = 1 ∧ (i).toNat < es.length) ∧ ((0 ≤ (IntKind.i64.wrap ((ix r 47) + 1)) ∧ (IntKind.i64.wrap ((ix r 47) + 1)) ≤ (r.size : Int) ∧ (r.size : Int) ≤ (r.size : Int)) ∧ (Q .normal ⟨[(.str (r.extract ((IntKind.i64.wrap ((ix r 47) + 1))).toNat ((r.size : Int)).toNat)), (.str ⟨#[47]⟩), (.int .i64 0), (.int .i64 N), .junk, .junk, .junk, .junk, .junk, (.own 0 1 m), (.int .i64 (IntKind.i64.wrap (i + 1))), (.int .i64 (ix r 47)), .junk, .junk, .junk, .junk, .junk, .junk, .junk, .junk, .junk, .junk, .junk, .junk, .junk, .junk, .junk, .junk, .junk, .junk, .junk, .junk, .junk, .junk, (.int .i64 i), (.int .i64 N), (.bool (!leI N i)), (.str r), (.str ⟨#[47]⟩), (.int .i64 (ix r 47)), (.int .i64 (ix r 47)), (.bool (!leI 0 (ix r 47))), (.own 0 1 m), (.int .i64 i), (.str r), (.int .i64 (ix r 47)), (.int .i64 0), (.int .i64 (IntKind.i64.wrap ((ix r 47) + 0))), (.str (r.extract ((0 : Int)).toNat ((IntKind.i64.wrap ((ix r 47) + 0))).toNat)), (.eptr 0 1 (i).toNat 0), (.str r), (.int .i64 (ix r 47)), (.str ⟨#[47]⟩), (.int .i64 1), (.int .i64 (IntKind.i64.wrap ((ix r 47) + 1))), (.str (r.extract ((IntKind.i64.wrap ((ix r 47) + 1))).toNat ((r.size : Int)).toNat)), (.int .i64 i), (.int .i64 (IntKind.i64.wrap (i + 1))), .junk, .junk, .junk, .junk, .junk, .junk, .junk, .junk], [(.arr true 1 1 none (es.set (i).toNat (setCells (es.getD (i).toNat []) 0 [(.str (r.extract ((0 : Int)).toNat ((IntKind.i64.wrap ((ix r 47) + 0))).toNat))])))]⟩))))))) (Q (.exit 0) ⟨[(.str r), (.str ⟨#[47]⟩), (.int .i64 0), (.int .i64 N), .junk, .junk, .junk, .junk, .junk, (.own 0 1 m), (.int .i64 i), .junk, .junk, .junk, .junk, .junk, .junk, .junk, .junk, .junk, .junk, .junk, .junk, .junk, .junk, .junk, .junk, .junk, .junk, .junk, .junk, .junk, .junk, .junk, (.int .i64 i), (.int .i64 N), (.bool (!leI N i)), .junk, .junk, .junk, .junk, .junk, .junk, .junk, .junk, .junk, .junk, .junk, .junk, .junk, .junk, .junk, .junk, .junk, .junk, .junk, .junk, .junk, .junk, .junk, .junk, .junk, .junk, .junk, .junk, .junk], [(.arr true 1 1 none es)]⟩)) := by kernel_rfl
theorem e125 (r : ByteArray) (N : Int) (m : Nat) (i : Int) (es : List (List AV)) {x4 x5 x6 x7 x8 x11 x12 x13 x14 x15 x16 x17 x18 x19 x20 x21 x22 x23 x24 x25 x26 x27 x28 x29 x30 x31 x32 x33 x34 x35 x36 x37 x38 x39 x40 x41 x42 x43 x44 x45 x46 x47 x48 x49 x50 x51 x52 x53 x54 x55 x56 x57 x58 x59 x60 x61 x62 x63 x64 x65 : AV} (Φ : AV → List Ent → Prop) : wCodeS te GP5 0 (bodyAt Tryz.f125 [false, false, false, false, false, false, false, false, false]) ⟨[(.str r), (.str ⟨#[47]⟩), (.int .i64 0), (.int .i64 N), x4, x5, x6, x7, x8, (.own 0 1 m), (.int .i64 i), x11, x12, x13, x14, x15, x16, x17, x18, x19, x20, x21, x22, x23, x24, x25, x26, x27, x28, x29, x30, x31, x32, x33, x34, x35, x36, x37, x38, x39, x40, x41, x42, x43, x44, x45, x46, x47, x48, x49, x50, x51, x52, x53, x54, x55, x56, x57, x58, x59, x60, x61, x62, x63, x64, x65], [(.arr true 1 1 none es)]⟩ (endQ te Tryz.f125 Φ) = ((0 ≤ i ∧ i < (m : Int)) ∧ ((1 = 1 ∧ (i).toNat < es.length) ∧ (((0 ≤ (0 : Int) ∧ (0 : Int) ≤ (IntKind.i64.wrap (i + 1)) ∧ (IntKind.i64.wrap (i + 1)) ≤ (m : Int)) ∧ (Φ (.osub 0 1 (0 + ((0 : Int)).toNat) (((IntKind.i64.wrap (i + 1))).toNat - ((0 : Int)).toNat)) [(.arr true 1 1 none (es.set (i).toNat (setCells (es.getD (i).toNat []) 0 [(.str r)])))])) ∨ False))) := by kernel_rfl
theorem take_set {α : Type} : ∀ (es : List α) (i : Nat) (x : α), i < es.length → (es.set i x).take (i + 1) = es.take i ++ [x]
  | [], i, x, h => by simp at h
  | a :: l, 0, x, h => by simp
  | a :: l, i + 1, x, h => by
    have := take_set l i x (by simpa using h)
    simpa using this
theorem setCells_one {es : List (List AV)} (h : ∀ e ∈ es, e.length = 1) {i : Nat} (hi : i < es.length) (x : AV) : setCells (es.getD i []) 0 [x] = [x] := by
  have h1 := h es[i] (List.getElem_mem hi)
  rw [List.getD_eq_getElem?_getD, List.getElem?_eq_getElem hi]
  show setCells es[i] 0 [x] = [x]
  generalize es[i] = e at h1
  match e, h1 with
  | [a], _ => rfl
theorem leI_nat (a b : Nat) : leI (a : Int) (b : Int) = decide (a ≤ b) := by
  show Nat.ble a b = _
  rw [Bool.eq_iff_iff]; simp
theorem set_len1 {es : List (List AV)} (h : ∀ e ∈ es, e.length = 1) (i : Nat) (x : AV) : ∀ e ∈ es.set i [x], e.length = 1 := by
  intro e he
  rcases List.mem_or_eq_of_mem_set he with h1 | h1
  · exact h e h1
  · rw [h1]; rfl
theorem sp_one {c : UInt8} {l : List UInt8} (h : (sp c l).length = 1) : sp c l = [l] := by
  rw [sp_len] at h
  have h0 : l.count c = 0 := by omega
  exact sp_miss c l fun x hx he => by
    subst he
    exact absurd hx (List.count_eq_zero.1 h0)
theorem s125e {r : ByteArray} {N : Int} {k i : Nat} {es full : List (List AV)} (hi : i ≤ k) (hk : k ≤ 1000000000) (hl : es.length = k + 1) (hrow : ∀ e ∈ es, e.length = 1) (hsp : sp 47 r.data.toList = [r.data.toList])
    (hinv : es.take i ++ rowsL (sp 47 r.data.toList) = full) (Φ : AV → Ent → Prop) (h : Φ (.sl 1 false full) .none) {x4 x5 x6 x7 x8 x11 x12 x13 x14 x15 x16 x17 x18 x19 x20 x21 x22 x23 x24 x25 x26 x27 x28 x29 x30 x31 x32 x33 x34 x35 x36 x37 x38 x39 x40 x41 x42 x43 x44 x45 x46 x47 x48 x49 x50 x51 x52 x53 x54 x55 x56 x57 x58 x59 x60 x61 x62 x63 x64 x65 : AV} :
    wCodeS te GP5 0 (bodyAt Tryz.f125 [false, false, false, false, false, false, false, false, false]) ⟨[.str r, .str ⟨#[47]⟩, .int .i64 0, .int .i64 N, x4, x5, x6, x7, x8, .own 0 1 (k + 1), .int .i64 i, x11, x12, x13, x14, x15, x16, x17, x18, x19, x20, x21, x22, x23, x24, x25, x26, x27, x28, x29, x30, x31, x32, x33, x34, x35, x36, x37, x38, x39, x40, x41, x42, x43, x44, x45, x46, x47, x48, x49, x50, x51, x52, x53, x54, x55, x56, x57, x58, x59, x60, x61, x62, x63, x64, x65], [.arr true 1 1 none es]⟩ (endQ te Tryz.f125 (datFin Φ)) := by
  rw [e125]
  have hlt : i < es.length := by omega
  have hw : IntKind.i64.wrap ((i : Int) + 1) = ((i + 1 : Nat) : Int) := by rw [IntWalk.i64_in _ (by omega)]; rfl
  rw [hw, Int.toNat_natCast, Int.toNat_natCast, setCells_one hrow hlt]
  refine ⟨⟨by omega, by omega⟩, ⟨rfl, hlt⟩, .inl ⟨⟨by omega, by omega, by omega⟩, ?_⟩⟩
  show datR Φ (rslvR [Ent.arr true 1 1 none (es.set i [AV.str r])] (AV.osub 0 1 0 (i + 1)))
  refine ⟨⟨rfl, ?_⟩, ?_⟩
  · rw [List.length_set]; omega
  · have : (es.set i [AV.str r]).take (i + 1) = full := by
      rw [take_set es i _ hlt, ← hinv, hsp]
      rfl
    show Φ (.sl 1 false ((es.set i [AV.str r]).take (i + 1))) .none
    rw [this]
    exact h
theorem s125 {s : ByteArray} (hs : s.size ≤ 1000000000) (Φ : AV → Ent → Prop) (h : Φ (.sl 1 false (rowsL (sp 47 s.data.toList))) .none) : wFunS te GP5 Tryz.f125 [.str s, .str ⟨#[47]⟩, .int .i64 0, .int .i64 (-1)] [] (datFin Φ) := by
  obtain ⟨k, hk⟩ : ∃ k : Nat, k = s.data.toList.count 47 := ⟨_, rfl⟩
  have hcn : cn s 47 = (k : Int) := by rw [hk]; rfl
  have hks : k ≤ s.size := by rw [hk, size_data]; exact List.count_le_length
  have hlen : (rowsL (sp 47 s.data.toList)).length = k + 1 := by rw [rowsL_len, sp_len, hk]
  generalize hfull : rowsL (sp 47 s.data.toList) = full at h hlen
  have e1 : IntKind.i64.wrap ((s.size : Int) + 1) = (s.size : Int) + 1 := by rw [IntWalk.i64_in _ (by omega)]
  have e2 : IntKind.i64.wrap ((k : Int) + 1) = (k : Int) + 1 := by rw [IntWalk.i64_in _ (by omega)]
  have e3 : (if (s.size : Int) + 1 < (k : Int) + 1 then (s.size : Int) + 1 else (k : Int) + 1) = (k : Int) + 1 := by split <;> omega
  have e4 : IntKind.i64.wrap ((k : Int) + 1 - 1) = (k : Int) := by rw [IntWalk.i64_in _ (by omega)]; omega
  rw [v125, hcn, e1, e2, e3, e4]
  refine ⟨rfl, ⟨rfl, by omega, by omega⟩, fun n st => ∃ (i : Nat) (r : ByteArray) (es : List (List AV)), i + n = k ∧ st = t125 r k (k + 1) i es ∧ es.length = k + 1 ∧ (∀ e ∈ es, e.length = 1) ∧ es.take i ++ rowsL (sp 47 r.data.toList) = full ∧ r.size ≤ s.size,
    ⟨k, t125 s k (k + 1) 0 (List.replicate (k + 1) [.str ⟨#[]⟩]), ⟨0, s, _, by omega, rfl, by simp, by intro e he; rw [List.eq_of_mem_replicate he]; rfl, hfull, Nat.le_refl _⟩, reT_to k125 1 rfl (by omega) rfl⟩, ?_⟩
  rintro n st ⟨i, r, es, hi, rfl, hl, hrow, hinv, hr⟩
  rw [b125]
  refine ifB_both (fun h1 => ⟨.inl rfl, ifB_both (fun h2 => ?_) (fun h2 => ?_)⟩) (fun h1 => ?_)
  · have hm : Go.Lib.indexByte r.data.toList 47 = -1 := by
      rw [not_leI] at h2
      have h3 : ix r 47 < 0 := of_decide_eq_true h2
      have h4 := Go.Lib.indexByte_ge r.data.toList 47
      have h5 : ix r 47 = Go.Lib.indexByte r.data.toList 47 := rfl
      omega
    exact rs_exit (s125e (by omega) (by omega) hl hrow (sp_ix_miss hm) hinv Φ h)
  · obtain ⟨o, ho⟩ : ∃ o : Nat, ix r 47 = o := by
      rw [not_leI] at h2
      have h3 : ¬ ix r 47 < 0 := of_decide_eq_false h2
      exact ⟨(ix r 47).toNat, by omega⟩
    obtain ⟨hol, hsp⟩ := sp_ix_hit (l := r.data.toList) (c := 47) (o := o) ho
    rw [← size_data] at hol
    rw [not_leI] at h1
    have h1' := of_decide_eq_true h1
    have hlt : i < es.length := by omega
    have w1 : IntKind.i64.wrap ((o : Int) + 0) = (o : Int) := by rw [IntWalk.i64_in _ (by omega)]; omega
    have w2 : IntKind.i64.wrap ((o : Int) + 1) = ((o + 1 : Nat) : Int) := by rw [IntWalk.i64_in _ (by omega)]; omega
    have w3 : IntKind.i64.wrap ((i : Int) + 1) = ((i + 1 : Nat) : Int) := by rw [IntWalk.i64_in _ (by omega)]; omega
    rw [ho, w1, w2, w3, Int.toNat_natCast, Int.toNat_natCast, Int.toNat_natCast, Int.toNat_natCast, setCells_one hrow hlt]
    refine ⟨by omega, by omega, ⟨rfl, hlt⟩, by omega, n - 1, t125 (r.extract (o + 1) r.size) k (k + 1) ((i + 1 : Nat) : Int) (es.set i [.str (r.extract 0 o)]), by omega, ⟨i + 1, _, _, by omega, rfl, by rw [List.length_set]; exact hl, set_len1 hrow _ _, ?_, ?_⟩, reT_to k125 1 rfl (by omega) rfl⟩
    · rw [take_set es i _ hlt, List.append_assoc, ← hinv, hsp]
      have q1 : (r.extract (o + 1) r.size).data.toList = r.data.toList.drop (o + 1) := by
        rw [Go.Lib.extract_data, List.take_of_length_le]
        rw [List.length_drop, size_data]
        omega
      have q2 : r.extract 0 o = ofL (r.data.toList.take o) := by rw [extract_ofL]; simp
      rw [q1, q2]
      rfl
    · rw [ByteArray.size_extract]; omega
  · have hik : i = k := by
      rw [not_leI] at h1
      have h1' := of_decide_eq_false h1
      omega
    have hsp : (sp 47 r.data.toList).length = 1 := by
      have := congrArg List.length hinv
      rw [List.length_append, List.length_take, rowsL_len, hlen] at this
      omega
    exact rs_exit (s125e (by omega) (by omega) hl hrow (sp_one hsp) hinv Φ h)
def CSp : List AV → Prop
  | [.str s, .str t] => s.size ≤ 1000000000 ∧ t = ⟨#[47]⟩
  | _ => False
def gSp : List AV → AV
  | [.str s, _] => .sl 1 false (rowsT (spB s))
  | _ => .junk
def CSp4 : List AV → Prop
  | [.str s, .str t, .int .i64 a, .int .i64 b] => s.size ≤ 1000000000 ∧ t = ⟨#[47]⟩ ∧ a = 0 ∧ b = -1
  | _ => False
def gSp4 : List AV → AV
  | [.str s, _, _, _] => .sl 1 false (rowsT (spB s))
  | _ => .junk
theorem fn125 : SpecSound Tryz.prog 125 (.fn CSp4 gSp4) := dat_soundS te_ok GP5_sound mixed isFun_125 (by
  rintro xs Φ ⟨hC, h⟩
  unfold CSp4 at hC
  split at hC
  · rename_i s t a b
    obtain ⟨h1, rfl, rfl, rfl⟩ := hC
    refine s125 h1 Φ ?_
    rw [← rowsT_spB]
    exact h
  · cases hC)
def GP6 : GE := fun f => match f with
  | 125 => some (.fn CSp4 gSp4)
  | _ => none
theorem GP6_sound : Sound Tryz.prog GP6 := by
  intro f sp h
  unfold GP6 at h
  split at h
  · cases h; exact fn125
  · cases h
theorem v94 (s : ByteArray) (Φ : AV → List Ent → Prop) : wFunS te GP6 Tryz.f94 [.str s, .str ⟨#[47]⟩] [] Φ = (CSp4 [.str s, .str ⟨#[47]⟩, .int .i64 0, .int .i64 (-1)] ∧ Φ (.sl 1 false (rowsT (spB s))) []) := by kernel_rfl
theorem fn94 : SpecSound Tryz.prog 94 (.fn CSp gSp) := dat_soundS te_ok GP6_sound mixed isFun_94 (by
  rintro xs Φ ⟨hC, h⟩
  unfold CSp at hC
  split at hC
  · rename_i s t
    obtain ⟨h1, rfl⟩ := hC
    rw [v94]
    exact ⟨⟨h1, rfl, rfl, rfl⟩, h⟩
  · cases hC)
end Go.Proofs.YtdojencjbmahpaaGreatDoor
end
/-
  Paths: the contract of path.Parse.
-/
section
namespace Go.Proofs.YtdojencjbmahpaaGreatDoor
open Go.Rf
set_option maxRecDepth 100000
set_option linter.unusedVariables false
set_option linter.unusedSimpArgs false
def GP7 : GE := fun f => match f with
  | 92 => some (.fn CH gH)
  | 93 => some (.fn C0 gHas)
  | 94 => some (.fn CSp gSp)
  | _ => none
theorem GP7_sound : Sound Tryz.prog GP7 := by
  intro f sp h
  unfold GP7 at h
  split at h
  · cases h; exact fn92
  · cases h; exact fn93
  · cases h; exact fn94
  · cases h
theorem isFun_64 : IsFun Tryz.prog 64 Tryz.f64 := ⟨Tryz.func64, by kernel_rfl, by kernel_rfl⟩
theorem v64 (s : ByteArray) (Φ : AV → List Ent → Prop) : wFunS te GP7 Tryz.f64 [(.str s)] [] Φ = (CH [(.str s), (.str ⟨#[47]⟩)] ∧ (ifB (!(hp s)) (Φ (.tup [(.sl 1 true []), (.int .i64 1)]) []) (C0 [(.str s), (.str ⟨#[0]⟩)] ∧ (ifB (leI 0 (ix s 0)) (Φ (.tup [(.sl 1 true []), (.int .i64 1)]) []) (ifB (!leI (s.size : Int) 120) (Φ (.tup [(.sl 1 true []), (.int .i64 9)]) []) (CSp [(.str s), (.str ⟨#[47]⟩)] ∧ (wLoopS 0 (wCodeS te GP7 0 (bodyAt Tryz.f64 [false, false, false, true, false, true, true])) ⟨[(.str s), .junk, (.sl 0 true []), (.int .i64 0), (.sl 0 true []), .junk, .junk, (.bool (leI 0 (ix s 0))), (.str s), (.bool (hp s)), (.bool (!(hp s))), (.bool false), (.str s), (.bool (leI 0 (ix s 0))), (.bool (leI 0 (ix s 0))), (.bool (!leI (s.size : Int) 120)), (.str s), (.int .i64 (s.size : Int)), (.bool (!leI (s.size : Int) 120)), (.str s), (.sl 1 false (rowsT (spB s))), (.int .i64 ((rowsT (spB s)).length : Int)), (.int .i64 0), .junk, .junk, .junk, .junk, .junk, .junk, .junk, .junk, .junk, .junk, .junk, .junk, .junk, .junk, .junk, .junk, .junk, .junk, .junk, .junk, .junk, .junk, .junk, .junk, .junk, .junk, .junk, .junk, .junk, .junk, .junk, .junk, .junk, .junk], []⟩ (blkQ 1 (seqQ (wCodeS te GP7 0 (bodyAt Tryz.f64 [false, false, false, false])) (endQ te Tryz.f64 Φ)))))))))) := by kernel_rfl
def t64 (v m : Nat) (i : Int) (ps es : List (List AV)) : St := ⟨[.junk, .junk, .junk, .junk, (.own 0 v m), .junk, .junk, .junk, .junk, .junk, .junk, .junk, .junk, .junk, .junk, .junk, .junk, .junk, .junk, .junk, (.sl 1 false ps), (.int .i64 (ps.length : Int)), (.int .i64 i), .junk, .junk, .junk, .junk, .junk, .junk, .junk, .junk, .junk, .junk, .junk, .junk, .junk, .junk, .junk, .junk, .junk, .junk, .junk, .junk, .junk, .junk, .junk, .junk, .junk, .junk, .junk, .junk, .junk, .junk, .junk, .junk, .junk, .junk], [(.arr true v 1 none es)]⟩
def k64 : List Bool := [false, false, false, false, true, false, false, false, false, false, false, false, false, false, false, false, false, false, false, false, true, true, true, false, false, false, false, false, false, false, false, false, false, false, false, false, false, false, false, false, false, false, false, false, false, false, false, false, false, false, false, false, false, false, false, false, false]
theorem b64 (v m : Nat) (i : Int) (ps es : List (List AV)) (Q : KontX) : wCodeS te GP7 0 (bodyAt Tryz.f64 [false, false, false, true, false, true, true]) (t64 v m i ps es ) Q = (ifB (!leI (ps.length : Int) i) ((0 ≤ i ∧ i < (ps.length : Int)) ∧ (∃ s1, cellAt ps i.toNat 0 = (.str s1) ∧ (ifB (s1.toList == (⟨#[]⟩ : ByteArray).toList) (Q .normal ⟨[.junk, .junk, .junk, .junk, (.own 0 v m), .junk, (.str s1), .junk, .junk, .junk, .junk, .junk, .junk, .junk, .junk, .junk, .junk, .junk, .junk, .junk, (.sl 1 false ps), (.int .i64 (ps.length : Int)), (.int .i64 (IntKind.i64.wrap (i + 1))), (.bool (!leI (ps.length : Int) i)), (.rptr 1 ps i.toNat 0), (.str s1), .junk, .junk, .junk, .junk, (.bool true), (.str s1), (.bool (s1.toList == (⟨#[]⟩ : ByteArray).toList)), (.bool true), (.tup []), (.tup []), (.bool true), .junk, .junk, .junk, .junk, .junk, .junk, .junk, .junk, .junk, .junk, .junk, .junk, .junk, .junk, .junk, .junk, .junk, .junk, (.int .i64 (IntKind.i64.wrap (i + 1))), .junk], [(.arr true v 1 none es)]⟩) (ifB (s1.toList == (⟨#[46]⟩ : ByteArray).toList) (Q .normal ⟨[.junk, .junk, .junk, .junk, (.own 0 v m), .junk, (.str s1), .junk, .junk, .junk, .junk, .junk, .junk, .junk, .junk, .junk, .junk, .junk, .junk, .junk, (.sl 1 false ps), (.int .i64 (ps.length : Int)), (.int .i64 (IntKind.i64.wrap (i + 1))), (.bool (!leI (ps.length : Int) i)), (.rptr 1 ps i.toNat 0), (.str s1), .junk, .junk, .junk, .junk, (.bool (s1.toList == (⟨#[46]⟩ : ByteArray).toList)), (.str s1), (.bool (s1.toList == (⟨#[]⟩ : ByteArray).toList)), (.bool false), (.str s1), (.bool (s1.toList == (⟨#[46]⟩ : ByteArray).toList)), (.bool (s1.toList == (⟨#[46]⟩ : ByteArray).toList)), .junk, .junk, .junk, .junk, .junk, .junk, .junk, .junk, .junk, .junk, .junk, .junk, .junk, .junk, .junk, .junk, .junk, .junk, (.int .i64 (IntKind.i64.wrap (i + 1))), .junk], [(.arr true v 1 none es)]⟩) (ifB (s1.toList == (⟨#[46, 46]⟩ : ByteArray).toList) (((0 ≤ (0 : Int) ∧ (0 : Int) ≤ (if 0 > (IntKind.i64.wrap ((m : Int) - 1)) then 0 else (IntKind.i64.wrap ((m : Int) - 1))) ∧ (if 0 > (IntKind.i64.wrap ((m : Int) - 1)) then 0 else (IntKind.i64.wrap ((m : Int) - 1))) ≤ (m : Int)) ∧ (Q .normal ⟨[.junk, .junk, .junk, .junk, (.osub 0 v (0 + ((0 : Int)).toNat) (((if 0 > (IntKind.i64.wrap ((m : Int) - 1)) then 0 else (IntKind.i64.wrap ((m : Int) - 1)))).toNat - ((0 : Int)).toNat)), .junk, (.str s1), .junk, .junk, .junk, .junk, .junk, .junk, .junk, .junk, .junk, .junk, .junk, .junk, .junk, (.sl 1 false ps), (.int .i64 (ps.length : Int)), (.int .i64 (IntKind.i64.wrap (i + 1))), (.bool (!leI (ps.length : Int) i)), (.rptr 1 ps i.toNat 0), (.str s1), .junk, .junk, .junk, .junk, (.bool (s1.toList == (⟨#[46]⟩ : ByteArray).toList)), (.str s1), (.bool (s1.toList == (⟨#[]⟩ : ByteArray).toList)), (.bool false), (.str s1), (.bool (s1.toList == (⟨#[46]⟩ : ByteArray).toList)), (.bool (s1.toList == (⟨#[46]⟩ : ByteArray).toList)), (.bool (s1.toList == (⟨#[46, 46]⟩ : ByteArray).toList)), (.str s1), (.bool (s1.toList == (⟨#[46, 46]⟩ : ByteArray).toList)), (.own 0 v m), (.own 0 v m), (.int .i64 (m : Int)), (.int .i64 (IntKind.i64.wrap ((m : Int) - 1))), (.int .i64 (if 0 > (IntKind.i64.wrap ((m : Int) - 1)) then 0 else (IntKind.i64.wrap ((m : Int) - 1)))), (.osub 0 v (0 + ((0 : Int)).toNat) (((if 0 > (IntKind.i64.wrap ((m : Int) - 1)) then 0 else (IntKind.i64.wrap ((m : Int) - 1)))).toNat - ((0 : Int)).toNat)), .junk, .junk, .junk, .junk, .junk, .junk, .junk, .junk, .junk, (.int .i64 (IntKind.i64.wrap (i + 1))), .junk], [(.arr true v 1 none es)]⟩)) ∨ False) (ifB (!leI (s1.size : Int) 24) (Q .ret ⟨[.junk, .junk, (.sl 0 true []), (.int .i64 9), (.own 0 v m), .junk, (.str s1), .junk, .junk, .junk, .junk, .junk, .junk, .junk, .junk, .junk, .junk, .junk, .junk, .junk, (.sl 1 false ps), (.int .i64 (ps.length : Int)), (.int .i64 i), (.bool (!leI (ps.length : Int) i)), (.rptr 1 ps i.toNat 0), (.str s1), .junk, .junk, .junk, .junk, (.bool (s1.toList == (⟨#[46]⟩ : ByteArray).toList)), (.str s1), (.bool (s1.toList == (⟨#[]⟩ : ByteArray).toList)), (.bool false), (.str s1), (.bool (s1.toList == (⟨#[46]⟩ : ByteArray).toList)), (.bool (s1.toList == (⟨#[46]⟩ : ByteArray).toList)), (.bool (s1.toList == (⟨#[46, 46]⟩ : ByteArray).toList)), (.str s1), (.bool (s1.toList == (⟨#[46, 46]⟩ : ByteArray).toList)), .junk, .junk, .junk, .junk, .junk, .junk, (.bool true), (.str s1), (.int .i64 (s1.size : Int)), (.bool (!leI (s1.size : Int) 24)), (.bool true), (.tup []), (.tup []), (.tup []), (.bool true), .junk, .junk], [(.arr true v 1 none es)]⟩) (ifB (leI 16 (m : Int)) (Q .ret ⟨[.junk, .junk, (.sl 0 true []), (.int .i64 9), (.own 0 v m), .junk, (.str s1), .junk, .junk, .junk, .junk, .junk, .junk, .junk, .junk, .junk, .junk, .junk, .junk, .junk, (.sl 1 false ps), (.int .i64 (ps.length : Int)), (.int .i64 i), (.bool (!leI (ps.length : Int) i)), (.rptr 1 ps i.toNat 0), (.str s1), .junk, .junk, .junk, .junk, (.bool (s1.toList == (⟨#[46]⟩ : ByteArray).toList)), (.str s1), (.bool (s1.toList == (⟨#[]⟩ : ByteArray).toList)), (.bool false), (.str s1), (.bool (s1.toList == (⟨#[46]⟩ : ByteArray).toList)), (.bool (s1.toList == (⟨#[46]⟩ : ByteArray).toList)), (.bool (s1.toList == (⟨#[46, 46]⟩ : ByteArray).toList)), (.str s1), (.bool (s1.toList == (⟨#[46, 46]⟩ : ByteArray).toList)), .junk, .junk, .junk, .junk, .junk, .junk, (.bool (leI 16 (m : Int))), (.str s1), (.int .i64 (s1.size : Int)), (.bool (!leI (s1.size : Int) 24)), (.bool false), (.own 0 v m), (.int .i64 (m : Int)), (.bool (leI 16 (m : Int))), (.bool (leI 16 (m : Int))), .junk, .junk], [(.arr true v 1 none es)]⟩) ((fits 1 1 [[(.str s1)]] = true ∧ v = v ∧ m = es.length ∧ room (es.length + 1) 16) ∧ (Q .normal ⟨[.junk, .junk, .junk, .junk, (.own 0 (v + 1) (es.length + 1)), .junk, (.str s1), .junk, .junk, .junk, .junk, .junk, .junk, .junk, .junk, .junk, .junk, .junk, .junk, .junk, (.sl 1 false ps), (.int .i64 (ps.length : Int)), (.int .i64 (IntKind.i64.wrap (i + 1))), (.bool (!leI (ps.length : Int) i)), (.rptr 1 ps i.toNat 0), (.str s1), (.own 0 v m), (.str s1), (.sl 1 true [[(.str s1)]]), (.own 0 (v + 1) (es.length + 1)), (.bool (s1.toList == (⟨#[46]⟩ : ByteArray).toList)), (.str s1), (.bool (s1.toList == (⟨#[]⟩ : ByteArray).toList)), (.bool false), (.str s1), (.bool (s1.toList == (⟨#[46]⟩ : ByteArray).toList)), (.bool (s1.toList == (⟨#[46]⟩ : ByteArray).toList)), (.bool (s1.toList == (⟨#[46, 46]⟩ : ByteArray).toList)), (.str s1), (.bool (s1.toList == (⟨#[46, 46]⟩ : ByteArray).toList)), .junk, .junk, .junk, .junk, .junk, .junk, (.bool (leI 16 (m : Int))), (.str s1), (.int .i64 (s1.size : Int)), (.bool (!leI (s1.size : Int) 24)), (.bool false), (.own 0 v m), (.int .i64 (m : Int)), (.bool (leI 16 (m : Int))), (.bool (leI 16 (m : Int))), (.int .i64 (IntKind.i64.wrap (i + 1))), .junk], [(.arr true (v + 1) 1 none (es ++ [[(.str s1)]]))]⟩))))))))) (Q (.exit 1) ⟨[.junk, .junk, .junk, .junk, (.own 0 v m), .junk, .junk, .junk, .junk, .junk, .junk, .junk, .junk, .junk, .junk, .junk, .junk, .junk, .junk, .junk, (.sl 1 false ps), (.int .i64 (ps.length : Int)), (.int .i64 i), (.bool (!leI (ps.length : Int) i)), .junk, .junk, .junk, .junk, .junk, .junk, .junk, .junk, .junk, .junk, .junk, .junk, .junk, .junk, .junk, .junk, .junk, .junk, .junk, .junk, .junk, .junk, .junk, .junk, .junk, .junk, .junk, .junk, .junk, .junk, .junk, .junk, .junk], [(.arr true v 1 none es)]⟩)) := by kernel_rfl
theorem e64 (v m : Nat) (i : Int) (ps es : List (List AV)) {x0 x1 x2 x3 x5 x6 x7 x8 x9 x10 x11 x12 x13 x14 x15 x16 x17 x18 x19 x23 x24 x25 x26 x27 x28 x29 x30 x31 x32 x33 x34 x35 x36 x37 x38 x39 x40 x41 x42 x43 x44 x45 x46 x47 x48 x49 x50 x51 x52 x53 x54 x55 x56 : AV} (Φ : AV → List Ent → Prop) : wCodeS te GP7 0 (bodyAt Tryz.f64 [false, false, false, false]) ⟨[x0, x1, x2, x3, (.own 0 v m), x5, x6, x7, x8, x9, x10, x11, x12, x13, x14, x15, x16, x17, x18, x19, (.sl 1 false ps), (.int .i64 (ps.length : Int)), (.int .i64 i), x23, x24, x25, x26, x27, x28, x29, x30, x31, x32, x33, x34, x35, x36, x37, x38, x39, x40, x41, x42, x43, x44, x45, x46, x47, x48, x49, x50, x51, x52, x53, x54, x55, x56], [(.arr true v 1 none es)]⟩ (endQ te Tryz.f64 Φ) = (Φ (.tup [(.own 0 v m), (.int .i64 0)]) [(.arr true v 1 none es)]) := by kernel_rfl
theorem r64 (n : Int) (H : List Ent) {x0 x1 x4 x5 x6 x7 x8 x9 x10 x11 x12 x13 x14 x15 x16 x17 x18 x19 x20 x21 x22 x23 x24 x25 x26 x27 x28 x29 x30 x31 x32 x33 x34 x35 x36 x37 x38 x39 x40 x41 x42 x43 x44 x45 x46 x47 x48 x49 x50 x51 x52 x53 x54 x55 x56 : AV} (Φ : AV → List Ent → Prop) : endQ te Tryz.f64 Φ .ret ⟨[x0, x1, (.sl 0 true []), (.int .i64 n), x4, x5, x6, x7, x8, x9, x10, x11, x12, x13, x14, x15, x16, x17, x18, x19, x20, x21, x22, x23, x24, x25, x26, x27, x28, x29, x30, x31, x32, x33, x34, x35, x36, x37, x38, x39, x40, x41, x42, x43, x44, x45, x46, x47, x48, x49, x50, x51, x52, x53, x54, x55, x56], H⟩ = Φ (.tup [.sl 1 true [], .int .i64 n]) H := by kernel_rfl
def t64z (i : Int) (ps : List (List AV)) : St := ⟨[.junk, .junk, .junk, .junk, (.sl 0 true []), .junk, .junk, .junk, .junk, .junk, .junk, .junk, .junk, .junk, .junk, .junk, .junk, .junk, .junk, .junk, (.sl 1 false ps), (.int .i64 (ps.length : Int)), (.int .i64 i), .junk, .junk, .junk, .junk, .junk, .junk, .junk, .junk, .junk, .junk, .junk, .junk, .junk, .junk, .junk, .junk, .junk, .junk, .junk, .junk, .junk, .junk, .junk, .junk, .junk, .junk, .junk, .junk, .junk, .junk, .junk, .junk, .junk, .junk], []⟩
def t64c (v k : Nat) (i : Int) (ps es : List (List AV)) : St := ⟨[.junk, .junk, .junk, .junk, (.osub 0 v 0 k), .junk, .junk, .junk, .junk, .junk, .junk, .junk, .junk, .junk, .junk, .junk, .junk, .junk, .junk, .junk, (.sl 1 false ps), (.int .i64 (ps.length : Int)), (.int .i64 i), .junk, .junk, .junk, .junk, .junk, .junk, .junk, .junk, .junk, .junk, .junk, .junk, .junk, .junk, .junk, .junk, .junk, .junk, .junk, .junk, .junk, .junk, .junk, .junk, .junk, .junk, .junk, .junk, .junk, .junk, .junk, .junk, .junk, .junk], [(.arr true v 1 none es)]⟩
theorem cellAt_rowsT (P : List ByteArray) (i : Nat) (h : i < P.length) : cellAt (rowsT P) i 0 = .str P[i] := by
  simp [cellAt, rowsT, List.getD_eq_getElem?_getD, h]
theorem foldP_drop (P l : List ByteArray) (i : Nat) (h : i < P.length) : foldP (P.drop i) l = match stepP l P[i] with
    | some m => foldP (P.drop (i + 1)) m
    | none => none := by
  rw [List.drop_eq_getElem_cons h]; rfl
theorem t64_z (i : Int) (ps : List (List AV)) : ReT 0 (t64z i ps) (t64 1 0 i ps []) := reT_adopt 4 0 1 rfl (by omega)
theorem t64_c (v k : Nat) (i : Int) (ps es : List (List AV)) : ReT 0 (t64c v k i ps es) (t64 v k i ps (es.take k)) :=
  (reT_front (H := [.arr true v 1 none es]) 0 k rfl).trans (reT_whole 4 0 v k rfl)
theorem rowsT_take (l : List ByteArray) (k : Nat) : (rowsT l).take k = rowsT (l.take k) := by simp [rowsT]
theorem rowsT_snoc (l : List ByteArray) (p : ByteArray) : rowsT l ++ [[.str p]] = rowsT (l ++ [p]) := by simp [rowsT]
theorem sp_le (c : UInt8) (l : List UInt8) : (sp c l).length ≤ l.length + 1 := by rw [sp_len]; have := List.count_le_length (a := c) (l := l); omega

theorem s64 {s : ByteArray} (hs : s.size ≤ 1000000000) (Φ : AV → Ent → Prop) (h : Φ (gParse [.str s]) .none) : wFunS te GP7 Tryz.f64 [.str s] [] (datFin Φ) := by
  rw [v64]
  have bad : ∀ n : Int, parseP s = ([], n) → Φ (.tup [.sl 1 false [], .int .i64 n]) .none := by
    intro n hn
    simp only [gParse, hn] at h
    exact h
  refine ⟨rfl, ifB_both (fun h1 => bad 1 ?_) (fun h1 => ⟨rfl, ifB_both (fun h2 => bad 1 ?_) (fun h2 => ifB_both (fun h3 => bad 9 ?_) (fun h3 => ?_))⟩)⟩
  · have h1' : hp s = false := by simpa using h1
    unfold parseP
    rw [if_pos (of_decide_eq_false h1')]
  · have h1' : hp s = true := by simpa using h1
    have h0 : (0 : UInt8) ∈ s.data.toList := by
      rcases Int.lt_or_le (Go.Lib.indexByte s.data.toList 0) 0 with hlt | hle
      · have : leI 0 (ix s 0) = false := by
          have h5 : ix s 0 = Go.Lib.indexByte s.data.toList 0 := rfl
          have := not_leI (ix s 0) 0
          rw [h5, decide_eq_true hlt] at this
          rw [h5]; simpa using this
        rw [this] at h2; cases h2
      · obtain ⟨o, ho⟩ : ∃ o : Nat, Go.Lib.indexByte s.data.toList 0 = o := ⟨_, (Int.toNat_of_nonneg hle).symm⟩
        exact List.mem_of_getElem? (Go.Lib.indexByte_some ho).1
    unfold parseP
    rw [if_neg (fun hn => hn (of_decide_eq_true h1')), if_pos h0]
  all_goals
    have h1' : hp s = true := by simpa using h1
    have h0 : ¬ (0 : UInt8) ∈ s.data.toList := by
      intro hm
      have hne : Go.Lib.indexByte s.data.toList 0 ≠ -1 := by
        intro he
        obtain ⟨k, hk, e⟩ := List.getElem_of_mem hm
        exact Go.Lib.indexByte_none he k (by rw [List.getElem?_eq_getElem hk, e])
      have hge := Go.Lib.indexByte_ge s.data.toList 0
      have h5 : ix s 0 = Go.Lib.indexByte s.data.toList 0 := rfl
      have := not_leI (ix s 0) 0
      rw [h2, h5] at this
      have h6 := of_decide_eq_true this.symm
      omega
  · have h3' : 120 < s.size := by
      rw [not_leI] at h3
      have := of_decide_eq_true h3
      omega
    unfold parseP
    rw [if_neg (fun hn => hn (of_decide_eq_true h1')), if_neg h0, if_pos h3']
  have h3' : ¬ 120 < s.size := by
    rw [not_leI] at h3
    have := of_decide_eq_false h3
    omega
  have hparse : parseP s = match foldP (spB s) [] with
      | some l => (l, 0)
      | none => ([], 9) := by
    unfold parseP
    rw [if_neg (fun hn => hn (of_decide_eq_true h1')), if_neg h0, if_neg h3']
    all_goals (cases foldP (spB s) [] <;> rfl)
  obtain ⟨P, hP⟩ : ∃ P, P = spB s := ⟨_, rfl⟩
  have hPl : P.length ≤ 121 := by
    rw [hP]
    unfold spB
    rw [List.length_map]
    have := sp_le 47 s.data.toList
    rw [← size_data] at this
    omega
  rw [← hP] at hparse ⊢
  have hps : (rowsT P).length = P.length := rowsT_len P
  refine ⟨⟨hs, rfl⟩, fun n st => ∃ (i v : Nat) (l : List ByteArray), i + n = P.length ∧ st = t64 v l.length i (rowsT P) (rowsT l) ∧ l.length ≤ 16 ∧ foldP (P.drop i) l = foldP P [],
    ⟨P.length, t64 1 0 0 (rowsT P) [], ⟨0, 1, [], by omega, rfl, by simp, rfl⟩, (reT_to (s' := t64z 0 (rowsT P)) k64 0 rfl (by omega) rfl).trans (t64_z 0 (rowsT P))⟩, ?_⟩
  rintro n st ⟨i, v, l, hi, rfl, hl, hinv⟩
  rw [b64]
  refine ifB_both (fun h4 => ?_) (fun h4 => ?_)
  · rw [not_leI] at h4
    have h4' := of_decide_eq_true h4
    have hiP : i < P.length := by omega
    have hw : IntKind.i64.wrap ((i : Int) + 1) = ((i + 1 : Nat) : Int) := by rw [IntWalk.i64_in _ (by omega)]; omega
    rw [foldP_drop P l i hiP] at hinv
    refine ⟨by omega, P[i], by rw [Int.toNat_natCast]; exact cellAt_rowsT P i hiP, ?_⟩
    rw [hw]
    have fail : stepP l P[i] = none → Φ (.tup [.sl 1 false [], .int .i64 9]) .none := by
      intro hn
      rw [hn] at hinv
      rw [← hinv] at hparse
      exact bad 9 hparse
    refine ifB_both (fun c1 => ?_) (fun c1 => ifB_both (fun c2 => ?_) (fun c2 => ifB_both (fun c3 => ?_) (fun c3 => ifB_both (fun c4 => ?_) (fun c4 => ifB_both (fun c5 => ?_) (fun c5 => ?_)))))
    · have hst : stepP l P[i] = some l := by unfold stepP; rw [if_pos c1]
      rw [hst] at hinv
      exact ⟨n - 1, t64 v l.length ((i + 1 : Nat) : Int) (rowsT P) (rowsT l), by omega, ⟨i + 1, v, l, by omega, rfl, hl, hinv⟩, reT_to k64 1 rfl (by omega) rfl⟩
    · have hst : stepP l P[i] = some l := by unfold stepP; rw [if_neg (by rw [c1]; decide), if_pos c2]
      rw [hst] at hinv
      exact ⟨n - 1, t64 v l.length ((i + 1 : Nat) : Int) (rowsT P) (rowsT l), by omega, ⟨i + 1, v, l, by omega, rfl, hl, hinv⟩, reT_to k64 1 rfl (by omega) rfl⟩
    · have hst : stepP l P[i] = some (l.take (l.length - 1)) := by unfold stepP; rw [if_neg (by rw [c1]; decide), if_neg (by rw [c2]; decide), if_pos c3]
      rw [hst] at hinv
      have hk : (if 0 > IntKind.i64.wrap ((l.length : Int) - 1) then 0 else IntKind.i64.wrap ((l.length : Int) - 1)) = ((l.length - 1 : Nat) : Int) := by
        rw [IntWalk.i64_in _ (by omega)]; split <;> omega
      rw [hk]
      refine .inl ⟨by omega, n - 1, t64 v (l.take (l.length - 1)).length ((i + 1 : Nat) : Int) (rowsT P) (rowsT (l.take (l.length - 1))), by omega, ⟨i + 1, v, _, by omega, rfl, by rw [List.length_take]; omega, hinv⟩, ?_⟩
      have ht : (l.take (l.length - 1)).length = l.length - 1 := by rw [List.length_take]; omega
      rw [ht, ← rowsT_take]
      refine (reT_to (s' := t64c v (l.length - 1) ((i + 1 : Nat) : Int) (rowsT P) (rowsT l)) k64 1 rfl (by omega) ?_).trans (t64_c v (l.length - 1) ((i + 1 : Nat) : Int) (rowsT P) (rowsT l))
      have hz : 0 + (0 : Int).toNat = 0 := rfl
      rw [hz, Int.toNat_natCast]
      rfl
    · refine rs_ret ?_
      rw [r64]
      refine fail ?_
      unfold stepP
      rw [not_leI] at c4
      have := of_decide_eq_true c4
      rw [if_neg (by rw [c1]; decide), if_neg (by rw [c2]; decide), if_neg (by rw [c3]; decide), if_pos (.inl (by omega))]
    · refine rs_ret ?_
      rw [r64]
      refine fail ?_
      unfold stepP
      have c5' : 16 ≤ l.length := by
        have := not_leI (l.length : Int) 16
        rw [show leI 16 (l.length : Int) = true from c5] at this
        have := of_decide_eq_false this.symm
        omega
      rw [if_neg (by rw [c1]; decide), if_neg (by rw [c2]; decide), if_neg (by rw [c3]; decide), if_pos (.inr c5')]
    · have c5' : ¬ 16 ≤ l.length := by
        have := not_leI (l.length : Int) 16
        rw [show leI 16 (l.length : Int) = false from c5] at this
        have := of_decide_eq_true this.symm
        omega
      have c4' : ¬ 24 < P[i].size := by
        rw [not_leI] at c4
        have := of_decide_eq_false c4
        omega
      have hst : stepP l P[i] = some (l ++ [P[i]]) := by
        unfold stepP
        rw [if_neg (by rw [c1]; decide), if_neg (by rw [c2]; decide), if_neg (by rw [c3]; decide), if_neg (by omega)]
      rw [hst] at hinv
      rw [rowsT_len, rowsT_snoc]
      refine ⟨⟨rfl, rfl, rfl, by unfold room; omega⟩, n - 1, t64 (v + 1) (l ++ [P[i]]).length ((i + 1 : Nat) : Int) (rowsT P) (rowsT (l ++ [P[i]])), by omega, ⟨i + 1, v + 1, _, by omega, rfl, by simp; omega, hinv⟩, ?_⟩
      have ht : (l ++ [P[i]]).length = l.length + 1 := by simp
      rw [ht]
      exact reT_to k64 1 rfl (by omega) rfl
  · rw [not_leI] at h4
    have h4' := of_decide_eq_false h4
    have hiP : P.length ≤ i := by omega
    rw [List.drop_of_length_le hiP] at hinv
    rw [← hinv] at hparse
    refine rs_exit ?_
    rw [e64]
    refine ⟨⟨rfl, (rowsT_len l).symm⟩, ?_⟩
    have h' := h
    simp only [gParse, hparse, foldP] at h'
    exact h'
theorem fn64 : SpecSound Tryz.prog 64 (.fn CParse gParse) := dat_soundS te_ok GP7_sound mixed isFun_64 (by
  rintro xs Φ ⟨hC, h⟩
  unfold CParse at hC
  split at hC
  · exact s64 hC Φ h
  · cases hC)
end Go.Proofs.YtdojencjbmahpaaGreatDoor
end
/-
  Paths: the contract of the reference's Parse.
-/
section
namespace Go.Proofs.YtdojencjbmahpaaGreatDoor
open Go.Rf
set_option maxRecDepth 100000
set_option linter.unusedVariables false
set_option linter.unusedSimpArgs false
theorem isFun_27 : IsFun Tryz.prog 27 Tryz.f27 := ⟨Tryz.func27, by kernel_rfl, by kernel_rfl⟩
def nGE' : GE := fun _ => none
theorem nGE'_sound : Sound Tryz.prog nGE' := by intro f sp h; cases h
theorem v27 (s : ByteArray) (Φ : AV → List Ent → Prop) : wFunS te nGE' Tryz.f27 [(.str s)] [] Φ = (ifB ((s.size : Int) == 0) (Φ (.tup [(.sl 1 true ([] : List (List AV))), (.int .i64 1)]) []) ((0 ≤ (0 : Int) ∧ (0 : Int) < (s.size : Int)) ∧ (ifB ((sb s 0) != 47) (Φ (.tup [(.sl 1 true ([] : List (List AV))), (.int .i64 1)]) []) (wLoopS 0 (wCodeS te nGE' 0 (bodyAt Tryz.f27 [false, false, true, false, true, true])) ⟨[(.str s), .junk, (.sl 0 true ([] : List (List AV))), (.int .i64 0), (.int .i64 0), .junk, .junk, .junk, .junk, (.str s), (.int .i64 (s.size : Int)), (.bool ((s.size : Int) == 0)), (.bool false), (.str s), (.int .u8 (sb s 0)), (.bool ((sb s 0) != 47)), (.bool ((sb s 0) != 47)), .junk, .junk, .junk, .junk, .junk, .junk, .junk, .junk, .junk, .junk, .junk, .junk, .junk, .junk, .junk, .junk, .junk, .junk, .junk, .junk, .junk, .junk, .junk, .junk, .junk, .junk, .junk, .junk, .junk, .junk, .junk, .junk, .junk, .junk, .junk, .junk, .junk, .junk, .junk, .junk, .junk, .junk, .junk, .junk, .junk, .junk, .junk, .junk, .junk, .junk, .junk, .junk, .junk, .junk, .junk, .junk, .junk, .junk, .junk, .junk, .junk, .junk, .junk, .junk, .junk, .junk, .junk], []⟩ (blkQ 0 (seqQ (wCodeS te nGE' 0 (bodyAt Tryz.f27 [false, false, false])) (endQ te Tryz.f27 Φ))))))) := by kernel_rfl
def t27a (s : ByteArray) (i : Int) : St := ⟨[(.str s), .junk, .junk, .junk, (.int .i64 i), .junk, .junk, .junk, .junk, .junk, .junk, .junk, .junk, .junk, .junk, .junk, .junk, .junk, .junk, .junk, .junk, .junk, .junk, .junk, .junk, .junk, .junk, .junk, .junk, .junk, .junk, .junk, .junk, .junk, .junk, .junk, .junk, .junk, .junk, .junk, .junk, .junk, .junk, .junk, .junk, .junk, .junk, .junk, .junk, .junk, .junk, .junk, .junk, .junk, .junk, .junk, .junk, .junk, .junk, .junk, .junk, .junk, .junk, .junk, .junk, .junk, .junk, .junk, .junk, .junk, .junk, .junk, .junk, .junk, .junk, .junk, .junk, .junk, .junk, .junk, .junk, .junk, .junk, .junk], []⟩
def k27a : List Bool := [true, false, false, false, true, false, false, false, false, false, false, false, false, false, false, false, false, false, false, false, false, false, false, false, false, false, false, false, false, false, false, false, false, false, false, false, false, false, false, false, false, false, false, false, false, false, false, false, false, false, false, false, false, false, false, false, false, false, false, false, false, false, false, false, false, false, false, false, false, false, false, false, false, false, false, false, false, false, false, false, false, false, false, false]
theorem b27a (s : ByteArray) (i : Int) (Q : KontX) : wCodeS te nGE' 0 (bodyAt Tryz.f27 [false, false, true, false, true, true]) (t27a s i) Q = (ifB (!leI (s.size : Int) i) ((0 ≤ i ∧ i < (s.size : Int)) ∧ (ifB ((sb s i) == 0) (Q .ret ⟨[(.str s), .junk, (.sl 0 true ([] : List (List AV))), (.int .i64 1), (.int .i64 i), .junk, .junk, .junk, .junk, .junk, .junk, .junk, .junk, .junk, .junk, .junk, .junk, (.int .i64 i), (.str s), (.int .i64 (s.size : Int)), (.bool (!leI (s.size : Int) i)), .junk, .junk, (.str s), (.int .i64 i), (.int .u8 (sb s i)), (.bool ((sb s i) == 0)), .junk, .junk, .junk, .junk, .junk, .junk, .junk, .junk, .junk, .junk, .junk, .junk, .junk, .junk, .junk, .junk, .junk, .junk, .junk, .junk, .junk, .junk, .junk, .junk, .junk, .junk, .junk, .junk, .junk, .junk, .junk, .junk, .junk, .junk, .junk, .junk, .junk, .junk, .junk, .junk, .junk, .junk, .junk, .junk, .junk, .junk, .junk, .junk, .junk, .junk, .junk, .junk, .junk, .junk, .junk, .junk, .junk], []⟩) (Q .normal ⟨[(.str s), .junk, .junk, .junk, (.int .i64 (IntKind.i64.wrap (i + 1))), .junk, .junk, .junk, .junk, .junk, .junk, .junk, .junk, .junk, .junk, .junk, .junk, (.int .i64 i), (.str s), (.int .i64 (s.size : Int)), (.bool (!leI (s.size : Int) i)), (.int .i64 i), (.int .i64 (IntKind.i64.wrap (i + 1))), (.str s), (.int .i64 i), (.int .u8 (sb s i)), (.bool ((sb s i) == 0)), .junk, .junk, .junk, .junk, .junk, .junk, .junk, .junk, .junk, .junk, .junk, .junk, .junk, .junk, .junk, .junk, .junk, .junk, .junk, .junk, .junk, .junk, .junk, .junk, .junk, .junk, .junk, .junk, .junk, .junk, .junk, .junk, .junk, .junk, .junk, .junk, .junk, .junk, .junk, .junk, .junk, .junk, .junk, .junk, .junk, .junk, .junk, .junk, .junk, .junk, .junk, .junk, .junk, .junk, .junk, .junk, .junk], []⟩))) (Q (.exit 0) ⟨[(.str s), .junk, .junk, .junk, (.int .i64 i), .junk, .junk, .junk, .junk, .junk, .junk, .junk, .junk, .junk, .junk, .junk, .junk, (.int .i64 i), (.str s), (.int .i64 (s.size : Int)), (.bool (!leI (s.size : Int) i)), .junk, .junk, .junk, .junk, .junk, .junk, .junk, .junk, .junk, .junk, .junk, .junk, .junk, .junk, .junk, .junk, .junk, .junk, .junk, .junk, .junk, .junk, .junk, .junk, .junk, .junk, .junk, .junk, .junk, .junk, .junk, .junk, .junk, .junk, .junk, .junk, .junk, .junk, .junk, .junk, .junk, .junk, .junk, .junk, .junk, .junk, .junk, .junk, .junk, .junk, .junk, .junk, .junk, .junk, .junk, .junk, .junk, .junk, .junk, .junk, .junk, .junk, .junk], []⟩)) := by kernel_rfl
theorem e27a (s : ByteArray) {x1 x2 x3 x4 x5 x6 x7 x8 x9 x10 x11 x12 x13 x14 x15 x16 x17 x18 x19 x20 x21 x22 x23 x24 x25 x26 x27 x28 x29 x30 x31 x32 x33 x34 x35 x36 x37 x38 x39 x40 x41 x42 x43 x44 x45 x46 x47 x48 x49 x50 x51 x52 x53 x54 x55 x56 x57 x58 x59 x60 x61 x62 x63 x64 x65 x66 x67 x68 x69 x70 x71 x72 x73 x74 x75 x76 x77 x78 x79 x80 x81 x82 x83 : AV} (Φ : AV → List Ent → Prop) : wCodeS te nGE' 0 (bodyAt Tryz.f27 [false, false, false]) ⟨[(.str s), x1, x2, x3, x4, x5, x6, x7, x8, x9, x10, x11, x12, x13, x14, x15, x16, x17, x18, x19, x20, x21, x22, x23, x24, x25, x26, x27, x28, x29, x30, x31, x32, x33, x34, x35, x36, x37, x38, x39, x40, x41, x42, x43, x44, x45, x46, x47, x48, x49, x50, x51, x52, x53, x54, x55, x56, x57, x58, x59, x60, x61, x62, x63, x64, x65, x66, x67, x68, x69, x70, x71, x72, x73, x74, x75, x76, x77, x78, x79, x80, x81, x82, x83], []⟩ (endQ te Tryz.f27 Φ) = (ifB (!leI (s.size : Int) 120) (Φ (.tup [(.sl 1 true ([] : List (List AV))), (.int .i64 9)]) []) (wLoopS 0 (wCodeS te nGE' 0 (bodyAt Tryz.f27 [false, false, false, false, false, false, true, false, true, true])) ⟨[(.str s), x1, x2, x3, x4, (.sl 0 true ([] : List (List AV))), (.int .i64 1), (.int .i64 1), x8, x9, x10, x11, x12, x13, x14, x15, x16, x17, x18, x19, x20, x21, x22, x23, x24, x25, x26, (.str s), (.int .i64 (s.size : Int)), (.bool (!leI (s.size : Int) 120)), x30, x31, x32, x33, x34, x35, x36, x37, x38, x39, x40, x41, x42, x43, x44, x45, x46, x47, x48, x49, x50, x51, x52, x53, x54, x55, x56, x57, x58, x59, x60, x61, x62, x63, x64, x65, x66, x67, x68, x69, x70, x71, x72, x73, x74, x75, x76, x77, x78, x79, x80, x81, x82, x83], []⟩ (blkQ 2 (seqQ (wCodeS te nGE' 0 (bodyAt Tryz.f27 [false, false, false, false, false, false, false])) (endQ te Tryz.f27 Φ))))) := by kernel_rfl
def t27b (s : ByteArray) (es : List (List AV)) (from_ i : Int) : St := ⟨[(.str s), .junk, .junk, .junk, .junk, (.sl 1 false es), (.int .i64 from_), (.int .i64 i), .junk, .junk, .junk, .junk, .junk, .junk, .junk, .junk, .junk, .junk, .junk, .junk, .junk, .junk, .junk, .junk, .junk, .junk, .junk, .junk, .junk, .junk, .junk, .junk, .junk, .junk, .junk, .junk, .junk, .junk, .junk, .junk, .junk, .junk, .junk, .junk, .junk, .junk, .junk, .junk, .junk, .junk, .junk, .junk, .junk, .junk, .junk, .junk, .junk, .junk, .junk, .junk, .junk, .junk, .junk, .junk, .junk, .junk, .junk, .junk, .junk, .junk, .junk, .junk, .junk, .junk, .junk, .junk, .junk, .junk, .junk, .junk, .junk, .junk, .junk, .junk], []⟩
def k27b : List Bool := [true, false, false, false, false, true, true, true, false, false, false, false, false, false, false, false, false, false, false, false, false, false, false, false, false, false, false, false, false, false, false, false, false, false, false, false, false, false, false, false, false, false, false, false, false, false, false, false, false, false, false, false, false, false, false, false, false, false, false, false, false, false, false, false, false, false, false, false, false, false, false, false, false, false, false, false, false, false, false, false, false, false, false, false]
theorem b27b (s : ByteArray) (es : List (List AV)) (from_ i : Int) (Q : KontX) : wCodeS te nGE' 0 (bodyAt Tryz.f27 [false, false, false, false, false, false, true, false, true, true]) (t27b s es from_ i) Q = (ifB (leI i (s.size : Int)) (ifB (!leI (s.size : Int) i) ((0 ≤ i ∧ i < (s.size : Int)) ∧ (ifB ((sb s i) != 47) (Q .normal ⟨[(.str s), .junk, .junk, .junk, .junk, (.sl 1 false es), (.int .i64 from_), (.int .i64 (IntKind.i64.wrap (i + 1))), .junk, .junk, .junk, .junk, .junk, .junk, .junk, .junk, .junk, .junk, .junk, .junk, .junk, .junk, .junk, .junk, .junk, .junk, .junk, .junk, .junk, .junk, (.int .i64 i), (.str s), (.int .i64 (s.size : Int)), (.bool (leI i (s.size : Int))), (.int .i64 i), (.int .i64 (IntKind.i64.wrap (i + 1))), (.int .i64 i), (.str s), (.int .i64 (s.size : Int)), (.bool (!leI (s.size : Int) i)), (.bool true), (.str s), (.int .i64 i), (.int .u8 (sb s i)), (.bool ((sb s i) != 47)), (.bool ((sb s i) != 47)), .junk, .junk, .junk, .junk, .junk, .junk, .junk, .junk, .junk, .junk, .junk, .junk, .junk, .junk, .junk, .junk, .junk, .junk, .junk, .junk, .junk, .junk, .junk, .junk, .junk, .junk, .junk, .junk, .junk, .junk, .junk, .junk, .junk, .junk, .junk, .junk, .junk, .junk], []⟩) ((0 ≤ from_ ∧ from_ ≤ i ∧ i ≤ (s.size : Int)) ∧ (ifB ((s.extract (from_).toNat (i).toNat).toList == (⟨#[]⟩ : ByteArray).toList) (Q .normal ⟨[(.str s), .junk, .junk, .junk, .junk, (.sl 1 false es), (.int .i64 (IntKind.i64.wrap (i + 1))), (.int .i64 (IntKind.i64.wrap (i + 1))), (.str (s.extract (from_).toNat (i).toNat)), .junk, .junk, .junk, .junk, .junk, .junk, .junk, .junk, .junk, .junk, .junk, .junk, .junk, .junk, .junk, .junk, .junk, .junk, .junk, .junk, .junk, (.int .i64 i), (.str s), (.int .i64 (s.size : Int)), (.bool (leI i (s.size : Int))), (.int .i64 i), (.int .i64 (IntKind.i64.wrap (i + 1))), (.int .i64 i), (.str s), (.int .i64 (s.size : Int)), (.bool (!leI (s.size : Int) i)), (.bool true), (.str s), (.int .i64 i), (.int .u8 (sb s i)), (.bool ((sb s i) != 47)), (.bool ((sb s i) != 47)), (.str s), (.int .i64 from_), (.int .i64 i), (.str (s.extract (from_).toNat (i).toNat)), (.int .i64 i), (.int .i64 (IntKind.i64.wrap (i + 1))), .junk, .junk, .junk, .junk, .junk, .junk, (.bool true), (.str (s.extract (from_).toNat (i).toNat)), (.bool ((s.extract (from_).toNat (i).toNat).toList == (⟨#[]⟩ : ByteArray).toList)), (.bool true), (.tup []), (.tup []), (.bool true), .junk, .junk, .junk, .junk, .junk, .junk, .junk, .junk, .junk, .junk, .junk, .junk, .junk, .junk, .junk, .junk, .junk, .junk, .junk], []⟩) (ifB ((s.extract (from_).toNat (i).toNat).toList == (⟨#[46]⟩ : ByteArray).toList) (Q .normal ⟨[(.str s), .junk, .junk, .junk, .junk, (.sl 1 false es), (.int .i64 (IntKind.i64.wrap (i + 1))), (.int .i64 (IntKind.i64.wrap (i + 1))), (.str (s.extract (from_).toNat (i).toNat)), .junk, .junk, .junk, .junk, .junk, .junk, .junk, .junk, .junk, .junk, .junk, .junk, .junk, .junk, .junk, .junk, .junk, .junk, .junk, .junk, .junk, (.int .i64 i), (.str s), (.int .i64 (s.size : Int)), (.bool (leI i (s.size : Int))), (.int .i64 i), (.int .i64 (IntKind.i64.wrap (i + 1))), (.int .i64 i), (.str s), (.int .i64 (s.size : Int)), (.bool (!leI (s.size : Int) i)), (.bool true), (.str s), (.int .i64 i), (.int .u8 (sb s i)), (.bool ((sb s i) != 47)), (.bool ((sb s i) != 47)), (.str s), (.int .i64 from_), (.int .i64 i), (.str (s.extract (from_).toNat (i).toNat)), (.int .i64 i), (.int .i64 (IntKind.i64.wrap (i + 1))), .junk, .junk, .junk, .junk, .junk, .junk, (.bool ((s.extract (from_).toNat (i).toNat).toList == (⟨#[46]⟩ : ByteArray).toList)), (.str (s.extract (from_).toNat (i).toNat)), (.bool ((s.extract (from_).toNat (i).toNat).toList == (⟨#[]⟩ : ByteArray).toList)), (.bool false), (.str (s.extract (from_).toNat (i).toNat)), (.bool ((s.extract (from_).toNat (i).toNat).toList == (⟨#[46]⟩ : ByteArray).toList)), (.bool ((s.extract (from_).toNat (i).toNat).toList == (⟨#[46]⟩ : ByteArray).toList)), .junk, .junk, .junk, .junk, .junk, .junk, .junk, .junk, .junk, .junk, .junk, .junk, .junk, .junk, .junk, .junk, .junk, .junk, .junk], []⟩) (ifB ((s.extract (from_).toNat (i).toNat).toList == (⟨#[46, 46]⟩ : ByteArray).toList) ((0 ≤ (0 : Int) ∧ (0 : Int) ≤ (if 0 > (IntKind.i64.wrap ((es.length : Int) - 1)) then 0 else (IntKind.i64.wrap ((es.length : Int) - 1))) ∧ (if 0 > (IntKind.i64.wrap ((es.length : Int) - 1)) then 0 else (IntKind.i64.wrap ((es.length : Int) - 1))) ≤ (es.length : Int)) ∧ (Q .normal ⟨[(.str s), .junk, .junk, .junk, .junk, (.sl 1 false (List.take (((if 0 > (IntKind.i64.wrap ((es.length : Int) - 1)) then 0 else (IntKind.i64.wrap ((es.length : Int) - 1)))).toNat - ((0 : Int)).toNat) (List.drop ((0 : Int)).toNat es))), (.int .i64 (IntKind.i64.wrap (i + 1))), (.int .i64 (IntKind.i64.wrap (i + 1))), (.str (s.extract (from_).toNat (i).toNat)), .junk, .junk, .junk, .junk, .junk, .junk, .junk, .junk, .junk, .junk, .junk, .junk, .junk, .junk, .junk, .junk, .junk, .junk, .junk, .junk, .junk, (.int .i64 i), (.str s), (.int .i64 (s.size : Int)), (.bool (leI i (s.size : Int))), (.int .i64 i), (.int .i64 (IntKind.i64.wrap (i + 1))), (.int .i64 i), (.str s), (.int .i64 (s.size : Int)), (.bool (!leI (s.size : Int) i)), (.bool true), (.str s), (.int .i64 i), (.int .u8 (sb s i)), (.bool ((sb s i) != 47)), (.bool ((sb s i) != 47)), (.str s), (.int .i64 from_), (.int .i64 i), (.str (s.extract (from_).toNat (i).toNat)), (.int .i64 i), (.int .i64 (IntKind.i64.wrap (i + 1))), .junk, .junk, .junk, .junk, .junk, .junk, (.bool ((s.extract (from_).toNat (i).toNat).toList == (⟨#[46]⟩ : ByteArray).toList)), (.str (s.extract (from_).toNat (i).toNat)), (.bool ((s.extract (from_).toNat (i).toNat).toList == (⟨#[]⟩ : ByteArray).toList)), (.bool false), (.str (s.extract (from_).toNat (i).toNat)), (.bool ((s.extract (from_).toNat (i).toNat).toList == (⟨#[46]⟩ : ByteArray).toList)), (.bool ((s.extract (from_).toNat (i).toNat).toList == (⟨#[46]⟩ : ByteArray).toList)), (.bool ((s.extract (from_).toNat (i).toNat).toList == (⟨#[46, 46]⟩ : ByteArray).toList)), (.str (s.extract (from_).toNat (i).toNat)), (.bool ((s.extract (from_).toNat (i).toNat).toList == (⟨#[46, 46]⟩ : ByteArray).toList)), (.sl 1 false es), (.sl 1 false es), (.int .i64 (es.length : Int)), (.int .i64 (IntKind.i64.wrap ((es.length : Int) - 1))), (.int .i64 (if 0 > (IntKind.i64.wrap ((es.length : Int) - 1)) then 0 else (IntKind.i64.wrap ((es.length : Int) - 1)))), (.sl 1 false (List.take (((if 0 > (IntKind.i64.wrap ((es.length : Int) - 1)) then 0 else (IntKind.i64.wrap ((es.length : Int) - 1)))).toNat - ((0 : Int)).toNat) (List.drop ((0 : Int)).toNat es))), .junk, .junk, .junk, .junk, .junk, .junk, .junk, .junk, .junk, .junk], []⟩)) (ifB (!leI ((s.extract (from_).toNat (i).toNat).size : Int) 24) (Q .ret ⟨[(.str s), .junk, (.sl 0 true ([] : List (List AV))), (.int .i64 9), .junk, (.sl 1 false es), (.int .i64 (IntKind.i64.wrap (i + 1))), (.int .i64 i), (.str (s.extract (from_).toNat (i).toNat)), .junk, .junk, .junk, .junk, .junk, .junk, .junk, .junk, .junk, .junk, .junk, .junk, .junk, .junk, .junk, .junk, .junk, .junk, .junk, .junk, .junk, (.int .i64 i), (.str s), (.int .i64 (s.size : Int)), (.bool (leI i (s.size : Int))), .junk, .junk, (.int .i64 i), (.str s), (.int .i64 (s.size : Int)), (.bool (!leI (s.size : Int) i)), (.bool true), (.str s), (.int .i64 i), (.int .u8 (sb s i)), (.bool ((sb s i) != 47)), (.bool ((sb s i) != 47)), (.str s), (.int .i64 from_), (.int .i64 i), (.str (s.extract (from_).toNat (i).toNat)), (.int .i64 i), (.int .i64 (IntKind.i64.wrap (i + 1))), .junk, .junk, .junk, .junk, .junk, .junk, (.bool ((s.extract (from_).toNat (i).toNat).toList == (⟨#[46]⟩ : ByteArray).toList)), (.str (s.extract (from_).toNat (i).toNat)), (.bool ((s.extract (from_).toNat (i).toNat).toList == (⟨#[]⟩ : ByteArray).toList)), (.bool false), (.str (s.extract (from_).toNat (i).toNat)), (.bool ((s.extract (from_).toNat (i).toNat).toList == (⟨#[46]⟩ : ByteArray).toList)), (.bool ((s.extract (from_).toNat (i).toNat).toList == (⟨#[46]⟩ : ByteArray).toList)), (.bool ((s.extract (from_).toNat (i).toNat).toList == (⟨#[46, 46]⟩ : ByteArray).toList)), (.str (s.extract (from_).toNat (i).toNat)), (.bool ((s.extract (from_).toNat (i).toNat).toList == (⟨#[46, 46]⟩ : ByteArray).toList)), .junk, .junk, .junk, .junk, .junk, .junk, (.bool true), (.str (s.extract (from_).toNat (i).toNat)), (.int .i64 ((s.extract (from_).toNat (i).toNat).size : Int)), (.bool (!leI ((s.extract (from_).toNat (i).toNat).size : Int) 24)), (.bool true), (.tup []), (.tup []), (.tup []), (.bool true), .junk], []⟩) (ifB (leI 16 (es.length : Int)) (Q .ret ⟨[(.str s), .junk, (.sl 0 true ([] : List (List AV))), (.int .i64 9), .junk, (.sl 1 false es), (.int .i64 (IntKind.i64.wrap (i + 1))), (.int .i64 i), (.str (s.extract (from_).toNat (i).toNat)), .junk, .junk, .junk, .junk, .junk, .junk, .junk, .junk, .junk, .junk, .junk, .junk, .junk, .junk, .junk, .junk, .junk, .junk, .junk, .junk, .junk, (.int .i64 i), (.str s), (.int .i64 (s.size : Int)), (.bool (leI i (s.size : Int))), .junk, .junk, (.int .i64 i), (.str s), (.int .i64 (s.size : Int)), (.bool (!leI (s.size : Int) i)), (.bool true), (.str s), (.int .i64 i), (.int .u8 (sb s i)), (.bool ((sb s i) != 47)), (.bool ((sb s i) != 47)), (.str s), (.int .i64 from_), (.int .i64 i), (.str (s.extract (from_).toNat (i).toNat)), (.int .i64 i), (.int .i64 (IntKind.i64.wrap (i + 1))), .junk, .junk, .junk, .junk, .junk, .junk, (.bool ((s.extract (from_).toNat (i).toNat).toList == (⟨#[46]⟩ : ByteArray).toList)), (.str (s.extract (from_).toNat (i).toNat)), (.bool ((s.extract (from_).toNat (i).toNat).toList == (⟨#[]⟩ : ByteArray).toList)), (.bool false), (.str (s.extract (from_).toNat (i).toNat)), (.bool ((s.extract (from_).toNat (i).toNat).toList == (⟨#[46]⟩ : ByteArray).toList)), (.bool ((s.extract (from_).toNat (i).toNat).toList == (⟨#[46]⟩ : ByteArray).toList)), (.bool ((s.extract (from_).toNat (i).toNat).toList == (⟨#[46, 46]⟩ : ByteArray).toList)), (.str (s.extract (from_).toNat (i).toNat)), (.bool ((s.extract (from_).toNat (i).toNat).toList == (⟨#[46, 46]⟩ : ByteArray).toList)), .junk, .junk, .junk, .junk, .junk, .junk, (.bool (leI 16 (es.length : Int))), (.str (s.extract (from_).toNat (i).toNat)), (.int .i64 ((s.extract (from_).toNat (i).toNat).size : Int)), (.bool (!leI ((s.extract (from_).toNat (i).toNat).size : Int) 24)), (.bool false), (.sl 1 false es), (.int .i64 (es.length : Int)), (.bool (leI 16 (es.length : Int))), (.bool (leI 16 (es.length : Int))), .junk], []⟩) (((fits 1 1 es = true ∧ fits 1 1 ([] : List (List AV)) = true) ∧ (([] : List (List AV)) = [] ∨ es ≠ []) ∧ room (0 + es.length) 16) ∧ ((fits 1 1 [[(.str (s.extract (from_).toNat (i).toNat))]] = true ∧ 1 = 1 ∧ (0 + es.length) = (([] : List (List AV)) ++ es).length ∧ room ((([] : List (List AV)) ++ es).length + 1) 16) ∧ (Q .normal ⟨[(.str s), .junk, .junk, .junk, .junk, (.own 0 (1 + 1) ((([] : List (List AV)) ++ es).length + 1)), (.int .i64 (IntKind.i64.wrap (i + 1))), (.int .i64 (IntKind.i64.wrap (i + 1))), (.str (s.extract (from_).toNat (i).toNat)), .junk, .junk, .junk, .junk, .junk, .junk, .junk, .junk, .junk, .junk, .junk, .junk, .junk, .junk, .junk, .junk, .junk, .junk, .junk, .junk, .junk, (.int .i64 i), (.str s), (.int .i64 (s.size : Int)), (.bool (leI i (s.size : Int))), (.int .i64 i), (.int .i64 (IntKind.i64.wrap (i + 1))), (.int .i64 i), (.str s), (.int .i64 (s.size : Int)), (.bool (!leI (s.size : Int) i)), (.bool true), (.str s), (.int .i64 i), (.int .u8 (sb s i)), (.bool ((sb s i) != 47)), (.bool ((sb s i) != 47)), (.str s), (.int .i64 from_), (.int .i64 i), (.str (s.extract (from_).toNat (i).toNat)), (.int .i64 i), (.int .i64 (IntKind.i64.wrap (i + 1))), (.sl 1 true ([] : List (List AV))), (.sl 1 false es), (.own 0 1 (0 + es.length)), (.str (s.extract (from_).toNat (i).toNat)), (.sl 1 true [[(.str (s.extract (from_).toNat (i).toNat))]]), (.own 0 (1 + 1) ((([] : List (List AV)) ++ es).length + 1)), (.bool ((s.extract (from_).toNat (i).toNat).toList == (⟨#[46]⟩ : ByteArray).toList)), (.str (s.extract (from_).toNat (i).toNat)), (.bool ((s.extract (from_).toNat (i).toNat).toList == (⟨#[]⟩ : ByteArray).toList)), (.bool false), (.str (s.extract (from_).toNat (i).toNat)), (.bool ((s.extract (from_).toNat (i).toNat).toList == (⟨#[46]⟩ : ByteArray).toList)), (.bool ((s.extract (from_).toNat (i).toNat).toList == (⟨#[46]⟩ : ByteArray).toList)), (.bool ((s.extract (from_).toNat (i).toNat).toList == (⟨#[46, 46]⟩ : ByteArray).toList)), (.str (s.extract (from_).toNat (i).toNat)), (.bool ((s.extract (from_).toNat (i).toNat).toList == (⟨#[46, 46]⟩ : ByteArray).toList)), .junk, .junk, .junk, .junk, .junk, .junk, (.bool (leI 16 (es.length : Int))), (.str (s.extract (from_).toNat (i).toNat)), (.int .i64 ((s.extract (from_).toNat (i).toNat).size : Int)), (.bool (!leI ((s.extract (from_).toNat (i).toNat).size : Int) 24)), (.bool false), (.sl 1 false es), (.int .i64 (es.length : Int)), (.bool (leI 16 (es.length : Int))), (.bool (leI 16 (es.length : Int))), .junk], [(.arr true (1 + 1) 1 none ((([] : List (List AV)) ++ es) ++ [[(.str (s.extract (from_).toNat (i).toNat))]]))]⟩))))))))))) ((0 ≤ from_ ∧ from_ ≤ i ∧ i ≤ (s.size : Int)) ∧ (ifB ((s.extract (from_).toNat (i).toNat).toList == (⟨#[]⟩ : ByteArray).toList) (Q .normal ⟨[(.str s), .junk, .junk, .junk, .junk, (.sl 1 false es), (.int .i64 (IntKind.i64.wrap (i + 1))), (.int .i64 (IntKind.i64.wrap (i + 1))), (.str (s.extract (from_).toNat (i).toNat)), .junk, .junk, .junk, .junk, .junk, .junk, .junk, .junk, .junk, .junk, .junk, .junk, .junk, .junk, .junk, .junk, .junk, .junk, .junk, .junk, .junk, (.int .i64 i), (.str s), (.int .i64 (s.size : Int)), (.bool (leI i (s.size : Int))), (.int .i64 i), (.int .i64 (IntKind.i64.wrap (i + 1))), (.int .i64 i), (.str s), (.int .i64 (s.size : Int)), (.bool (!leI (s.size : Int) i)), (.bool false), (.tup []), (.tup []), (.tup []), (.tup []), (.bool false), (.str s), (.int .i64 from_), (.int .i64 i), (.str (s.extract (from_).toNat (i).toNat)), (.int .i64 i), (.int .i64 (IntKind.i64.wrap (i + 1))), .junk, .junk, .junk, .junk, .junk, .junk, (.bool true), (.str (s.extract (from_).toNat (i).toNat)), (.bool ((s.extract (from_).toNat (i).toNat).toList == (⟨#[]⟩ : ByteArray).toList)), (.bool true), (.tup []), (.tup []), (.bool true), .junk, .junk, .junk, .junk, .junk, .junk, .junk, .junk, .junk, .junk, .junk, .junk, .junk, .junk, .junk, .junk, .junk, .junk, .junk], []⟩) (ifB ((s.extract (from_).toNat (i).toNat).toList == (⟨#[46]⟩ : ByteArray).toList) (Q .normal ⟨[(.str s), .junk, .junk, .junk, .junk, (.sl 1 false es), (.int .i64 (IntKind.i64.wrap (i + 1))), (.int .i64 (IntKind.i64.wrap (i + 1))), (.str (s.extract (from_).toNat (i).toNat)), .junk, .junk, .junk, .junk, .junk, .junk, .junk, .junk, .junk, .junk, .junk, .junk, .junk, .junk, .junk, .junk, .junk, .junk, .junk, .junk, .junk, (.int .i64 i), (.str s), (.int .i64 (s.size : Int)), (.bool (leI i (s.size : Int))), (.int .i64 i), (.int .i64 (IntKind.i64.wrap (i + 1))), (.int .i64 i), (.str s), (.int .i64 (s.size : Int)), (.bool (!leI (s.size : Int) i)), (.bool false), (.tup []), (.tup []), (.tup []), (.tup []), (.bool false), (.str s), (.int .i64 from_), (.int .i64 i), (.str (s.extract (from_).toNat (i).toNat)), (.int .i64 i), (.int .i64 (IntKind.i64.wrap (i + 1))), .junk, .junk, .junk, .junk, .junk, .junk, (.bool ((s.extract (from_).toNat (i).toNat).toList == (⟨#[46]⟩ : ByteArray).toList)), (.str (s.extract (from_).toNat (i).toNat)), (.bool ((s.extract (from_).toNat (i).toNat).toList == (⟨#[]⟩ : ByteArray).toList)), (.bool false), (.str (s.extract (from_).toNat (i).toNat)), (.bool ((s.extract (from_).toNat (i).toNat).toList == (⟨#[46]⟩ : ByteArray).toList)), (.bool ((s.extract (from_).toNat (i).toNat).toList == (⟨#[46]⟩ : ByteArray).toList)), .junk, .junk, .junk, .junk, .junk, .junk, .junk, .junk, .junk, .junk, .junk, .junk, .junk, .junk, .junk, .junk, .junk, .junk, .junk], []⟩) (ifB ((s.extract (from_).toNat (i).toNat).toList == (⟨#[46, 46]⟩ : ByteArray).toList) ((0 ≤ (0 : Int) ∧ (0 : Int) ≤ (if 0 > (IntKind.i64.wrap ((es.length : Int) - 1)) then 0 else (IntKind.i64.wrap ((es.length : Int) - 1))) ∧ (if 0 > (IntKind.i64.wrap ((es.length : Int) - 1)) then 0 else (IntKind.i64.wrap ((es.length : Int) - 1))) ≤ (es.length : Int)) ∧ (Q .normal ⟨[(.str s), .junk, .junk, .junk, .junk, (.sl 1 false (List.take (((if 0 > (IntKind.i64.wrap ((es.length : Int) - 1)) then 0 else (IntKind.i64.wrap ((es.length : Int) - 1)))).toNat - ((0 : Int)).toNat) (List.drop ((0 : Int)).toNat es))), (.int .i64 (IntKind.i64.wrap (i + 1))), (.int .i64 (IntKind.i64.wrap (i + 1))), (.str (s.extract (from_).toNat (i).toNat)), .junk, .junk, .junk, .junk, .junk, .junk, .junk, .junk, .junk, .junk, .junk, .junk, .junk, .junk, .junk, .junk, .junk, .junk, .junk, .junk, .junk, (.int .i64 i), (.str s), (.int .i64 (s.size : Int)), (.bool (leI i (s.size : Int))), (.int .i64 i), (.int .i64 (IntKind.i64.wrap (i + 1))), (.int .i64 i), (.str s), (.int .i64 (s.size : Int)), (.bool (!leI (s.size : Int) i)), (.bool false), (.tup []), (.tup []), (.tup []), (.tup []), (.bool false), (.str s), (.int .i64 from_), (.int .i64 i), (.str (s.extract (from_).toNat (i).toNat)), (.int .i64 i), (.int .i64 (IntKind.i64.wrap (i + 1))), .junk, .junk, .junk, .junk, .junk, .junk, (.bool ((s.extract (from_).toNat (i).toNat).toList == (⟨#[46]⟩ : ByteArray).toList)), (.str (s.extract (from_).toNat (i).toNat)), (.bool ((s.extract (from_).toNat (i).toNat).toList == (⟨#[]⟩ : ByteArray).toList)), (.bool false), (.str (s.extract (from_).toNat (i).toNat)), (.bool ((s.extract (from_).toNat (i).toNat).toList == (⟨#[46]⟩ : ByteArray).toList)), (.bool ((s.extract (from_).toNat (i).toNat).toList == (⟨#[46]⟩ : ByteArray).toList)), (.bool ((s.extract (from_).toNat (i).toNat).toList == (⟨#[46, 46]⟩ : ByteArray).toList)), (.str (s.extract (from_).toNat (i).toNat)), (.bool ((s.extract (from_).toNat (i).toNat).toList == (⟨#[46, 46]⟩ : ByteArray).toList)), (.sl 1 false es), (.sl 1 false es), (.int .i64 (es.length : Int)), (.int .i64 (IntKind.i64.wrap ((es.length : Int) - 1))), (.int .i64 (if 0 > (IntKind.i64.wrap ((es.length : Int) - 1)) then 0 else (IntKind.i64.wrap ((es.length : Int) - 1)))), (.sl 1 false (List.take (((if 0 > (IntKind.i64.wrap ((es.length : Int) - 1)) then 0 else (IntKind.i64.wrap ((es.length : Int) - 1)))).toNat - ((0 : Int)).toNat) (List.drop ((0 : Int)).toNat es))), .junk, .junk, .junk, .junk, .junk, .junk, .junk, .junk, .junk, .junk], []⟩)) (ifB (!leI ((s.extract (from_).toNat (i).toNat).size : Int) 24) (Q .ret ⟨[(.str s), .junk, (.sl 0 true ([] : List (List AV))), (.int .i64 9), .junk, (.sl 1 false es), (.int .i64 (IntKind.i64.wrap (i + 1))), (.int .i64 i), (.str (s.extract (from_).toNat (i).toNat)), .junk, .junk, .junk, .junk, .junk, .junk, .junk, .junk, .junk, .junk, .junk, .junk, .junk, .junk, .junk, .junk, .junk, .junk, .junk, .junk, .junk, (.int .i64 i), (.str s), (.int .i64 (s.size : Int)), (.bool (leI i (s.size : Int))), .junk, .junk, (.int .i64 i), (.str s), (.int .i64 (s.size : Int)), (.bool (!leI (s.size : Int) i)), (.bool false), (.tup []), (.tup []), (.tup []), (.tup []), (.bool false), (.str s), (.int .i64 from_), (.int .i64 i), (.str (s.extract (from_).toNat (i).toNat)), (.int .i64 i), (.int .i64 (IntKind.i64.wrap (i + 1))), .junk, .junk, .junk, .junk, .junk, .junk, (.bool ((s.extract (from_).toNat (i).toNat).toList == (⟨#[46]⟩ : ByteArray).toList)), (.str (s.extract (from_).toNat (i).toNat)), (.bool ((s.extract (from_).toNat (i).toNat).toList == (⟨#[]⟩ : ByteArray).toList)), (.bool false), (.str (s.extract (from_).toNat (i).toNat)), (.bool ((s.extract (from_).toNat (i).toNat).toList == (⟨#[46]⟩ : ByteArray).toList)), (.bool ((s.extract (from_).toNat (i).toNat).toList == (⟨#[46]⟩ : ByteArray).toList)), (.bool ((s.extract (from_).toNat (i).toNat).toList == (⟨#[46, 46]⟩ : ByteArray).toList)), (.str (s.extract (from_).toNat (i).toNat)), (.bool ((s.extract (from_).toNat (i).toNat).toList == (⟨#[46, 46]⟩ : ByteArray).toList)), .junk, .junk, .junk, .junk, .junk, .junk, (.bool true), (.str (s.extract (from_).toNat (i).toNat)), (.int .i64 ((s.extract (from_).toNat (i).toNat).size : Int)), (.bool (!leI ((s.extract (from_).toNat (i).toNat).size : Int) 24)), (.bool true), (.tup []), (.tup []), (.tup []), (.bool true), .junk], []⟩) (ifB (leI 16 (es.length : Int)) (Q .ret ⟨[(.str s), .junk, (.sl 0 true ([] : List (List AV))), (.int .i64 9), .junk, (.sl 1 false es), (.int .i64 (IntKind.i64.wrap (i + 1))), (.int .i64 i), (.str (s.extract (from_).toNat (i).toNat)), .junk, .junk, .junk, .junk, .junk, .junk, .junk, .junk, .junk, .junk, .junk, .junk, .junk, .junk, .junk, .junk, .junk, .junk, .junk, .junk, .junk, (.int .i64 i), (.str s), (.int .i64 (s.size : Int)), (.bool (leI i (s.size : Int))), .junk, .junk, (.int .i64 i), (.str s), (.int .i64 (s.size : Int)), (.bool (!leI (s.size : Int) i)), (.bool false), (.tup []), (.tup []), (.tup []), (.tup []), (.bool false), (.str s), (.int .i64 from_), (.int .i64 i), (.str (s.extract (from_).toNat (i).toNat)), (.int .i64 i), (.int .i64 (IntKind.i64.wrap (i + 1))), .junk, .junk, .junk, .junk, .junk, .junk, (.bool ((s.extract (from_).toNat (i).toNat).toList == (⟨#[46]⟩ : ByteArray).toList)), (.str (s.extract (from_).toNat (i).toNat)), (.bool ((s.extract (from_).toNat (i).toNat).toList == (⟨#[]⟩ : ByteArray).toList)), (.bool false), (.str (s.extract (from_).toNat (i).toNat)), (.bool ((s.extract (from_).toNat (i).toNat).toList == (⟨#[46]⟩ : ByteArray).toList)), (.bool ((s.extract (from_).toNat (i).toNat).toList == (⟨#[46]⟩ : ByteArray).toList)), (.bool ((s.extract (from_).toNat (i).toNat).toList == (⟨#[46, 46]⟩ : ByteArray).toList)), (.str (s.extract (from_).toNat (i).toNat)), (.bool ((s.extract (from_).toNat (i).toNat).toList == (⟨#[46, 46]⟩ : ByteArray).toList)), .junk, .junk, .junk, .junk, .junk, .junk, (.bool (leI 16 (es.length : Int))), (.str (s.extract (from_).toNat (i).toNat)), (.int .i64 ((s.extract (from_).toNat (i).toNat).size : Int)), (.bool (!leI ((s.extract (from_).toNat (i).toNat).size : Int) 24)), (.bool false), (.sl 1 false es), (.int .i64 (es.length : Int)), (.bool (leI 16 (es.length : Int))), (.bool (leI 16 (es.length : Int))), .junk], []⟩) (((fits 1 1 es = true ∧ fits 1 1 ([] : List (List AV)) = true) ∧ (([] : List (List AV)) = [] ∨ es ≠ []) ∧ room (0 + es.length) 16) ∧ ((fits 1 1 [[(.str (s.extract (from_).toNat (i).toNat))]] = true ∧ 1 = 1 ∧ (0 + es.length) = (([] : List (List AV)) ++ es).length ∧ room ((([] : List (List AV)) ++ es).length + 1) 16) ∧ (Q .normal ⟨[(.str s), .junk, .junk, .junk, .junk, (.own 0 (1 + 1) ((([] : List (List AV)) ++ es).length + 1)), (.int .i64 (IntKind.i64.wrap (i + 1))), (.int .i64 (IntKind.i64.wrap (i + 1))), (.str (s.extract (from_).toNat (i).toNat)), .junk, .junk, .junk, .junk, .junk, .junk, .junk, .junk, .junk, .junk, .junk, .junk, .junk, .junk, .junk, .junk, .junk, .junk, .junk, .junk, .junk, (.int .i64 i), (.str s), (.int .i64 (s.size : Int)), (.bool (leI i (s.size : Int))), (.int .i64 i), (.int .i64 (IntKind.i64.wrap (i + 1))), (.int .i64 i), (.str s), (.int .i64 (s.size : Int)), (.bool (!leI (s.size : Int) i)), (.bool false), (.tup []), (.tup []), (.tup []), (.tup []), (.bool false), (.str s), (.int .i64 from_), (.int .i64 i), (.str (s.extract (from_).toNat (i).toNat)), (.int .i64 i), (.int .i64 (IntKind.i64.wrap (i + 1))), (.sl 1 true ([] : List (List AV))), (.sl 1 false es), (.own 0 1 (0 + es.length)), (.str (s.extract (from_).toNat (i).toNat)), (.sl 1 true [[(.str (s.extract (from_).toNat (i).toNat))]]), (.own 0 (1 + 1) ((([] : List (List AV)) ++ es).length + 1)), (.bool ((s.extract (from_).toNat (i).toNat).toList == (⟨#[46]⟩ : ByteArray).toList)), (.str (s.extract (from_).toNat (i).toNat)), (.bool ((s.extract (from_).toNat (i).toNat).toList == (⟨#[]⟩ : ByteArray).toList)), (.bool false), (.str (s.extract (from_).toNat (i).toNat)), (.bool ((s.extract (from_).toNat (i).toNat).toList == (⟨#[46]⟩ : ByteArray).toList)), (.bool ((s.extract (from_).toNat (i).toNat).toList == (⟨#[46]⟩ : ByteArray).toList)), (.bool ((s.extract (from_).toNat (i).toNat).toList == (⟨#[46, 46]⟩ : ByteArray).toList)), (.str (s.extract (from_).toNat (i).toNat)), (.bool ((s.extract (from_).toNat (i).toNat).toList == (⟨#[46, 46]⟩ : ByteArray).toList)), .junk, .junk, .junk, .junk, .junk, .junk, (.bool (leI 16 (es.length : Int))), (.str (s.extract (from_).toNat (i).toNat)), (.int .i64 ((s.extract (from_).toNat (i).toNat).size : Int)), (.bool (!leI ((s.extract (from_).toNat (i).toNat).size : Int) 24)), (.bool false), (.sl 1 false es), (.int .i64 (es.length : Int)), (.bool (leI 16 (es.length : Int))), (.bool (leI 16 (es.length : Int))), .junk], [(.arr true (1 + 1) 1 none ((([] : List (List AV)) ++ es) ++ [[(.str (s.extract (from_).toNat (i).toNat))]]))]⟩)))))))))) (Q (.exit 2) ⟨[(.str s), .junk, .junk, .junk, .junk, (.sl 1 false es), (.int .i64 from_), (.int .i64 i), .junk, .junk, .junk, .junk, .junk, .junk, .junk, .junk, .junk, .junk, .junk, .junk, .junk, .junk, .junk, .junk, .junk, .junk, .junk, .junk, .junk, .junk, (.int .i64 i), (.str s), (.int .i64 (s.size : Int)), (.bool (leI i (s.size : Int))), .junk, .junk, .junk, .junk, .junk, .junk, .junk, .junk, .junk, .junk, .junk, .junk, .junk, .junk, .junk, .junk, .junk, .junk, .junk, .junk, .junk, .junk, .junk, .junk, .junk, .junk, .junk, .junk, .junk, .junk, .junk, .junk, .junk, .junk, .junk, .junk, .junk, .junk, .junk, .junk, .junk, .junk, .junk, .junk, .junk, .junk, .junk, .junk, .junk, .junk], []⟩)) := by kernel_rfl
theorem e27b (es : List (List AV)) {x0 x1 x2 x3 x4 x6 x7 x8 x9 x10 x11 x12 x13 x14 x15 x16 x17 x18 x19 x20 x21 x22 x23 x24 x25 x26 x27 x28 x29 x30 x31 x32 x33 x34 x35 x36 x37 x38 x39 x40 x41 x42 x43 x44 x45 x46 x47 x48 x49 x50 x51 x52 x53 x54 x55 x56 x57 x58 x59 x60 x61 x62 x63 x64 x65 x66 x67 x68 x69 x70 x71 x72 x73 x74 x75 x76 x77 x78 x79 x80 x81 x82 x83 : AV} (Φ : AV → List Ent → Prop) : wCodeS te nGE' 0 (bodyAt Tryz.f27 [false, false, false, false, false, false, false]) ⟨[x0, x1, x2, x3, x4, (.sl 1 false es), x6, x7, x8, x9, x10, x11, x12, x13, x14, x15, x16, x17, x18, x19, x20, x21, x22, x23, x24, x25, x26, x27, x28, x29, x30, x31, x32, x33, x34, x35, x36, x37, x38, x39, x40, x41, x42, x43, x44, x45, x46, x47, x48, x49, x50, x51, x52, x53, x54, x55, x56, x57, x58, x59, x60, x61, x62, x63, x64, x65, x66, x67, x68, x69, x70, x71, x72, x73, x74, x75, x76, x77, x78, x79, x80, x81, x82, x83], []⟩ (endQ te Tryz.f27 Φ) = (Φ (.tup [(.sl 1 false es), (.int .i64 0)]) []) := by kernel_rfl
theorem r27 (n : Int) (H : List Ent) {x0 x1 x4 x5 x6 x7 x8 x9 x10 x11 x12 x13 x14 x15 x16 x17 x18 x19 x20 x21 x22 x23 x24 x25 x26 x27 x28 x29 x30 x31 x32 x33 x34 x35 x36 x37 x38 x39 x40 x41 x42 x43 x44 x45 x46 x47 x48 x49 x50 x51 x52 x53 x54 x55 x56 x57 x58 x59 x60 x61 x62 x63 x64 x65 x66 x67 x68 x69 x70 x71 x72 x73 x74 x75 x76 x77 x78 x79 x80 x81 x82 x83 : AV} (Φ : AV → List Ent → Prop) : endQ te Tryz.f27 Φ .ret ⟨[x0, x1, (.sl 0 true ([] : List (List AV))), (.int .i64 n), x4, x5, x6, x7, x8, x9, x10, x11, x12, x13, x14, x15, x16, x17, x18, x19, x20, x21, x22, x23, x24, x25, x26, x27, x28, x29, x30, x31, x32, x33, x34, x35, x36, x37, x38, x39, x40, x41, x42, x43, x44, x45, x46, x47, x48, x49, x50, x51, x52, x53, x54, x55, x56, x57, x58, x59, x60, x61, x62, x63, x64, x65, x66, x67, x68, x69, x70, x71, x72, x73, x74, x75, x76, x77, x78, x79, x80, x81, x82, x83], H⟩ = Φ (.tup [.sl 1 true [], .int .i64 n]) H := by kernel_rfl
def t27o (s : ByteArray) (m : Nat) (es : List (List AV)) (from_ i : Int) : St := ⟨[(.str s), .junk, .junk, .junk, .junk, (.own 0 (1 + 1) m), (.int .i64 from_), (.int .i64 i), .junk, .junk, .junk, .junk, .junk, .junk, .junk, .junk, .junk, .junk, .junk, .junk, .junk, .junk, .junk, .junk, .junk, .junk, .junk, .junk, .junk, .junk, .junk, .junk, .junk, .junk, .junk, .junk, .junk, .junk, .junk, .junk, .junk, .junk, .junk, .junk, .junk, .junk, .junk, .junk, .junk, .junk, .junk, .junk, .junk, .junk, .junk, .junk, .junk, .junk, .junk, .junk, .junk, .junk, .junk, .junk, .junk, .junk, .junk, .junk, .junk, .junk, .junk, .junk, .junk, .junk, .junk, .junk, .junk, .junk, .junk, .junk, .junk, .junk, .junk, .junk], [(.arr true (1 + 1) 1 none es)]⟩
def t27z (s : ByteArray) (from_ i : Int) : St := ⟨[(.str s), .junk, .junk, .junk, .junk, (.sl 0 true ([] : List (List AV))), (.int .i64 from_), (.int .i64 i), .junk, .junk, .junk, .junk, .junk, .junk, .junk, .junk, .junk, .junk, .junk, .junk, .junk, .junk, .junk, .junk, .junk, .junk, .junk, .junk, .junk, .junk, .junk, .junk, .junk, .junk, .junk, .junk, .junk, .junk, .junk, .junk, .junk, .junk, .junk, .junk, .junk, .junk, .junk, .junk, .junk, .junk, .junk, .junk, .junk, .junk, .junk, .junk, .junk, .junk, .junk, .junk, .junk, .junk, .junk, .junk, .junk, .junk, .junk, .junk, .junk, .junk, .junk, .junk, .junk, .junk, .junk, .junk, .junk, .junk, .junk, .junk, .junk, .junk, .junk, .junk], []⟩
theorem t27_z (s : ByteArray) (from_ i : Int) : ReT 0 (t27z s from_ i) (t27b s [] from_ i) := reT_nil 5 0 1 true rfl
theorem t27_o (s : ByteArray) (m : Nat) (es : List (List AV)) (from_ i : Int) (hm : m = es.length) : ReT 0 (t27o s m es from_ i) (t27b s es from_ i) := reT_freeze1 5 (1 + 1) m 1 rfl hm rfl
theorem branch27 {x : ByteArray} {l : List ByteArray} (hl : l.length ≤ 16) {A B C D E F : Prop} (hA : stepP l x = some l → A) (hB : stepP l x = some l → B)
    (hC : (if 0 > IntKind.i64.wrap (((rowsT l).length : Int) - 1) then 0 else IntKind.i64.wrap (((rowsT l).length : Int) - 1)) = ((l.length - 1 : Nat) : Int) → stepP l x = some (l.take (l.length - 1)) → C)
    (hD : stepP l x = none → D) (hE : stepP l x = none → E) (hF : stepP l x = some (l ++ [x]) → F) :
    ifB (x.toList == (⟨#[]⟩ : ByteArray).toList) A (ifB (x.toList == (⟨#[46]⟩ : ByteArray).toList) B (ifB (x.toList == (⟨#[46, 46]⟩ : ByteArray).toList)
      ((0 ≤ (0 : Int) ∧ (0 : Int) ≤ (if 0 > (IntKind.i64.wrap (((rowsT l).length : Int) - 1)) then 0 else (IntKind.i64.wrap (((rowsT l).length : Int) - 1))) ∧ (if 0 > (IntKind.i64.wrap (((rowsT l).length : Int) - 1)) then 0 else (IntKind.i64.wrap (((rowsT l).length : Int) - 1))) ≤ ((rowsT l).length : Int)) ∧ C)
      (ifB (!leI (x.size : Int) 24) D (ifB (leI 16 ((rowsT l).length : Int)) E
        (((fits 1 1 (rowsT l) = true ∧ fits 1 1 ([] : List (List AV)) = true) ∧ (([] : List (List AV)) = [] ∨ (rowsT l) ≠ []) ∧ room (0 + (rowsT l).length) 16) ∧
          ((fits 1 1 [[(.str x)]] = true ∧ 1 = 1 ∧ (0 + (rowsT l).length) = (([] : List (List AV)) ++ (rowsT l)).length ∧ room ((([] : List (List AV)) ++ (rowsT l)).length + 1) 16) ∧ F)))))) := by
  have hrl := rowsT_len l
  refine ifB_both (fun c1 => hA ?_) (fun c1 => ifB_both (fun c2 => hB ?_) (fun c2 => ifB_both (fun c3 => ?_) (fun c3 => ifB_both (fun c4 => hD ?_) (fun c4 => ifB_both (fun c5 => hE ?_) (fun c5 => ?_)))))
  · unfold stepP; rw [if_pos c1]
  · unfold stepP; rw [if_neg (by rw [c1]; decide), if_pos c2]
  · have hk : (if 0 > IntKind.i64.wrap (((rowsT l).length : Int) - 1) then 0 else IntKind.i64.wrap (((rowsT l).length : Int) - 1)) = ((l.length - 1 : Nat) : Int) := by
      rw [IntWalk.i64_in _ (by omega)]; split <;> omega
    refine ⟨by rw [hk]; omega, hC hk ?_⟩
    unfold stepP; rw [if_neg (by rw [c1]; decide), if_neg (by rw [c2]; decide), if_pos c3]
  · unfold stepP
    rw [not_leI] at c4
    have := of_decide_eq_true c4
    rw [if_neg (by rw [c1]; decide), if_neg (by rw [c2]; decide), if_neg (by rw [c3]; decide), if_pos (.inl (by omega))]
  · unfold stepP
    have c5' : 16 ≤ l.length := by
      have := not_leI ((rowsT l).length : Int) 16
      rw [show leI 16 ((rowsT l).length : Int) = true from c5] at this
      have := of_decide_eq_false this.symm
      omega
    rw [if_neg (by rw [c1]; decide), if_neg (by rw [c2]; decide), if_neg (by rw [c3]; decide), if_pos (.inr c5')]
  · have c5' : ¬ 16 ≤ l.length := by
      have := not_leI ((rowsT l).length : Int) 16
      rw [show leI 16 ((rowsT l).length : Int) = false from c5] at this
      have := of_decide_eq_true this.symm
      omega
    have c4' : ¬ 24 < x.size := by
      rw [not_leI] at c4
      have := of_decide_eq_false c4
      omega
    refine ⟨⟨⟨?_, rfl⟩, .inl rfl, by unfold room; omega⟩, ⟨rfl, rfl, ?_, by unfold room; simp; omega⟩, hF ?_⟩
    · cases l with
      | nil => rfl
      | cons a l => rfl
    · simp
    · unfold stepP
      rw [if_neg (by rw [c1]; decide), if_neg (by rw [c2]; decide), if_neg (by rw [c3]; decide), if_neg (by omega)]

theorem sb_at (s : ByteArray) (i : Nat) (h : i < s.data.toList.length) : sb s (i : Int) = ((s.data.toList[i]).toNat : Int) := by
  unfold sb
  rw [Int.toNat_natCast, List.getD_eq_getElem?_getD, List.getElem?_eq_getElem h]
  rfl
theorem sb_eq (s : ByteArray) (i c : Nat) (h : i < s.data.toList.length) (hc : c < 256) : sb s (i : Int) = (c : Int) ↔ s.data.toList[i] = UInt8.ofNat c := by
  rw [sb_at s i h]
  constructor
  · intro he
    have h2 : (s.data.toList[i]).toNat = c := by omega
    rw [← h2]; simp
  · intro he
    rw [he]
    simp
    omega
theorem piece_at {L : List UInt8} {c : UInt8} {a i : Nat} (h1 : a ≤ i) (h2 : i < L.length) (hc : L[i] = c) (hno : ∀ k, a ≤ k → k < i → L[k]? ≠ some c) :
    sp c (L.drop a) = (L.drop a).take (i - a) :: sp c (L.drop (i + 1)) := by
  have e1 : (L.drop a)[i - a]? = some c := by
    rw [List.getElem?_drop, show a + (i - a) = i from by omega, List.getElem?_eq_getElem h2, hc]
  have e2 : (L.drop a).drop (i - a + 1) = L.drop (i + 1) := by rw [List.drop_drop]; congr 1; omega
  conv => lhs; rw [split_at e1]
  rw [sp_hit c _ _ (notin_take ?_), e2]
  intro k hk
  rw [List.getElem?_drop]
  exact hno (a + k) (by omega) (by omega)
theorem piece_end {L : List UInt8} {c : UInt8} {a : Nat} (hno : ∀ k, a ≤ k → k < L.length → L[k]? ≠ some c) : sp c (L.drop a) = [L.drop a] := by
  refine sp_miss c _ fun x hx he => ?_
  subst he
  obtain ⟨k, hk, e⟩ := List.getElem_of_mem hx
  have hk' := hk
  rw [List.length_drop] at hk'
  refine hno (a + k) (by omega) (by omega) ?_
  rw [List.getElem_drop] at e
  rw [List.getElem?_eq_getElem (by omega), e]
theorem foldP_cons {x : ByteArray} {ps l : List ByteArray} : foldP (x :: ps) l = match stepP l x with
    | some m => foldP ps m
    | none => none := rfl

/-- What the reference does behind the first tests. -/
theorem s27b {s : ByteArray} (hs : s.size ≤ 120) {R : Option (List ByteArray)} (hR : foldP ((sp 47 (s.data.toList.drop 1)).map ofL) [] = R) (h1 : 1 ≤ s.size) (Φ : AV → Ent → Prop)
    (hok : ∀ l, R = some l → Φ (.tup [.sl 1 false (rowsT l), .int .i64 0]) .none) (hbad : R = none → Φ (.tup [.sl 1 false [], .int .i64 9]) .none) {st : St} (hst : ReT 0 st (t27z s 1 1)) :
    wLoopS 0 (wCodeS te nGE' 0 (bodyAt Tryz.f27 [false, false, false, false, false, false, true, false, true, true])) st (blkQ 2 (seqQ (wCodeS te nGE' 0 (bodyAt Tryz.f27 [false, false, false, false, false, false, false])) (endQ te Tryz.f27 (datFin Φ)))) := by
  obtain ⟨L, hL⟩ : ∃ L, L = s.data.toList := ⟨_, rfl⟩
  have hsz : s.size = L.length := by rw [hL]; rfl
  rw [← hL] at hR
  refine ⟨fun n st => ∃ (a i : Nat) (l : List ByteArray), i + n = s.size + 1 ∧ st = t27b s (rowsT l) a i ∧ l.length ≤ 16 ∧
      ((i ≤ s.size ∧ 1 ≤ a ∧ a ≤ i ∧ (∀ k, a ≤ k → k < i → L[k]? ≠ some 47) ∧ foldP ((sp 47 (L.drop a)).map ofL) l = R) ∨ (s.size < i ∧ R = some l)),
    ⟨s.size, t27b s [] 1 1, ⟨1, 1, [], by omega, rfl, by simp, .inl ⟨h1, by omega, by omega, fun k _ _ => by omega, hR⟩⟩, hst.trans (t27_z s 1 1)⟩, ?_⟩
  rintro n st ⟨a, i, l, hi, rfl, hl, hinv⟩
  rw [b27b]
  refine ifB_both (fun c0 => ?_) (fun c0 => ?_)
  · have hi' : i ≤ s.size := by
      rw [leI_nat] at c0
      exact of_decide_eq_true c0
    obtain ⟨_, ha1, hai, hno, hfold⟩ : i ≤ s.size ∧ 1 ≤ a ∧ a ≤ i ∧ (∀ k, a ≤ k → k < i → L[k]? ≠ some 47) ∧ foldP ((sp 47 (L.drop a)).map ofL) l = R := by
      rcases hinv with h | ⟨h, _⟩
      · exact h
      · omega
    have hw : IntKind.i64.wrap ((i : Int) + 1) = ((i + 1 : Nat) : Int) := by rw [IntWalk.i64_in _ (by omega)]; omega
    have hx : s.extract (a : Int).toNat (i : Int).toNat = ofL ((L.drop a).take (i - a)) := by rw [extract_ofL, Int.toNat_natCast, Int.toNat_natCast, hL]
    -- what holds behind a part
    have next : ∀ (m : List ByteArray), stepP l (ofL ((L.drop a).take (i - a))) = some m → m.length ≤ 16 →
        (i < s.size → L[i]? = some 47) → ((i + 1 ≤ s.size ∧ 1 ≤ i + 1 ∧ i + 1 ≤ i + 1 ∧ (∀ k, i + 1 ≤ k → k < i + 1 → L[k]? ≠ some 47) ∧ foldP ((sp 47 (L.drop (i + 1))).map ofL) m = R) ∨ (s.size < i + 1 ∧ R = some m)) := by
      intro m hm _ h47
      rcases Nat.lt_or_ge i s.size with hlt | hge
      · have hiL : i < L.length := by omega
        have h47' : L[i] = 47 := by
          have := h47 hlt
          rw [List.getElem?_eq_getElem hiL] at this
          exact Option.some.inj this
        refine .inl ⟨hlt, by omega, Nat.le_refl _, fun k _ _ => by omega, ?_⟩
        rw [piece_at hai hiL h47' hno, List.map_cons, foldP_cons, hm] at hfold
        exact hfold
      · refine .inr ⟨by omega, ?_⟩
        rw [piece_end (fun k hk hk2 => hno k hk (by omega))] at hfold
        rw [List.take_of_length_le (by rw [List.length_drop]; omega)] at hm
        rw [List.map_cons, foldP_cons, hm] at hfold
        exact hfold.symm
    have stop : stepP l (ofL ((L.drop a).take (i - a))) = none → (i < s.size → L[i]? = some 47) → R = none := by
      intro hm h47
      rcases Nat.lt_or_ge i s.size with hlt | hge
      · have hiL : i < L.length := by omega
        have h47' : L[i] = 47 := by
          have := h47 hlt
          rw [List.getElem?_eq_getElem hiL] at this
          exact Option.some.inj this
        rw [piece_at hai hiL h47' hno, List.map_cons, foldP_cons, hm] at hfold
        exact hfold.symm
      · rw [piece_end (fun k hk hk2 => hno k hk (by omega))] at hfold
        rw [List.take_of_length_le (by rw [List.length_drop]; omega)] at hm
        rw [List.map_cons, foldP_cons, hm] at hfold
        exact hfold.symm
    have hrow : (rowsT l).length = l.length := rowsT_len l
    refine ifB_both (fun c1 => ?_) (fun c1 => ?_)
    · rw [not_leI] at c1
      have c1' := of_decide_eq_true c1
      have hiL : i < L.length := by omega
      have hiL' : i < s.data.toList.length := by rw [← hL]; exact hiL
      have hsb := sb_eq s i 47 hiL' (by omega)
      have hgL : L[i] = s.data.toList[i] := by subst hL; rfl
      refine ⟨by omega, ifB_both (fun c2 => ?_) (fun c2 => ?_)⟩
      · have hne : ¬ L[i] = 47 := by
          intro he
          rw [hgL] at he
          rw [hsb.2 he] at c2
          exact absurd c2 (by decide)
        rw [hw]
        refine ⟨n - 1, t27b s (rowsT l) a ((i + 1 : Nat) : Int), by omega, ⟨a, i + 1, l, by omega, rfl, hl, .inl ⟨by omega, ha1, by omega, fun k hk1 hk2 => ?_, hfold⟩⟩, reT_to k27b 0 rfl (by omega) rfl⟩
        rcases Nat.lt_or_ge k i with hk | hk
        · exact hno k hk1 hk
        · have : k = i := by omega
          subst this
          rw [List.getElem?_eq_getElem hiL]
          exact fun he => hne (Option.some.inj he)
      · have h47 : i < s.size → L[i]? = some 47 := by
          intro _
          rw [List.getElem?_eq_getElem hiL, hgL]
          have : sb s (i : Int) = 47 := by simpa using c2
          rw [hsb.1 this]
          rfl
        refine ⟨by omega, ?_⟩
        rw [hw, hx]
        refine branch27 hl (fun hst => ?_) (fun hst => ?_) (fun hk hst => ?_) (fun hst => ?_) (fun hst => ?_) (fun hst => ?_)
        · exact ⟨n - 1, t27b s (rowsT l) ((i + 1 : Nat) : Int) ((i + 1 : Nat) : Int), by omega, ⟨i + 1, i + 1, l, by omega, rfl, hl, next l hst hl h47⟩, reT_to k27b 0 rfl (by omega) rfl⟩
        · exact ⟨n - 1, t27b s (rowsT l) ((i + 1 : Nat) : Int) ((i + 1 : Nat) : Int), by omega, ⟨i + 1, i + 1, l, by omega, rfl, hl, next l hst hl h47⟩, reT_to k27b 0 rfl (by omega) rfl⟩
        · rw [hk, Int.toNat_natCast]
          refine ⟨n - 1, t27b s (rowsT (l.take (l.length - 1))) ((i + 1 : Nat) : Int) ((i + 1 : Nat) : Int), by omega, ⟨i + 1, i + 1, _, by omega, rfl, stepP_len hst hl, next _ hst (stepP_len hst hl) h47⟩, ?_⟩
          rw [← rowsT_take]
          exact reT_to k27b 0 rfl (by omega) rfl
        · refine rs_ret ?_
          rw [r27]
          exact hbad (stop hst h47)
        · refine rs_ret ?_
          rw [r27]
          exact hbad (stop hst h47)
        · refine ⟨n - 1, t27b s (rowsT (l ++ [ofL ((L.drop a).take (i - a))])) ((i + 1 : Nat) : Int) ((i + 1 : Nat) : Int), by omega, ⟨i + 1, i + 1, _, by omega, rfl, stepP_len hst hl, next _ hst (stepP_len hst hl) h47⟩, ?_⟩
          rw [← rowsT_snoc]
          exact (reT_to (s' := t27o s ((([] : List (List AV)) ++ rowsT l).length + 1) (rowsT l ++ [[AV.str (ofL ((L.drop a).take (i - a)))]]) ((i + 1 : Nat) : Int) ((i + 1 : Nat) : Int)) k27b 1 rfl (by omega) rfl).trans (t27_o _ _ _ _ _ (by simp))
    · rw [not_leI] at c1
      have c1' := of_decide_eq_false c1
      have h47 : i < s.size → L[i]? = some 47 := fun h => by omega
      refine ⟨by omega, ?_⟩
      rw [hw, hx]
      refine branch27 hl (fun hst => ?_) (fun hst => ?_) (fun hk hst => ?_) (fun hst => ?_) (fun hst => ?_) (fun hst => ?_)
      · exact ⟨n - 1, t27b s (rowsT l) ((i + 1 : Nat) : Int) ((i + 1 : Nat) : Int), by omega, ⟨i + 1, i + 1, l, by omega, rfl, hl, next l hst hl h47⟩, reT_to k27b 0 rfl (by omega) rfl⟩
      · exact ⟨n - 1, t27b s (rowsT l) ((i + 1 : Nat) : Int) ((i + 1 : Nat) : Int), by omega, ⟨i + 1, i + 1, l, by omega, rfl, hl, next l hst hl h47⟩, reT_to k27b 0 rfl (by omega) rfl⟩
      · rw [hk, Int.toNat_natCast]
        refine ⟨n - 1, t27b s (rowsT (l.take (l.length - 1))) ((i + 1 : Nat) : Int) ((i + 1 : Nat) : Int), by omega, ⟨i + 1, i + 1, _, by omega, rfl, stepP_len hst hl, next _ hst (stepP_len hst hl) h47⟩, ?_⟩
        rw [← rowsT_take]
        exact reT_to k27b 0 rfl (by omega) rfl
      · refine rs_ret ?_
        rw [r27]
        exact hbad (stop hst h47)
      · refine rs_ret ?_
        rw [r27]
        exact hbad (stop hst h47)
      · refine ⟨n - 1, t27b s (rowsT (l ++ [ofL ((L.drop a).take (i - a))])) ((i + 1 : Nat) : Int) ((i + 1 : Nat) : Int), by omega, ⟨i + 1, i + 1, _, by omega, rfl, stepP_len hst hl, next _ hst (stepP_len hst hl) h47⟩, ?_⟩
        rw [← rowsT_snoc]
        exact (reT_to (s' := t27o s ((([] : List (List AV)) ++ rowsT l).length + 1) (rowsT l ++ [[AV.str (ofL ((L.drop a).take (i - a)))]]) ((i + 1 : Nat) : Int) ((i + 1 : Nat) : Int)) k27b 1 rfl (by omega) rfl).trans (t27_o _ _ _ _ _ (by simp))
  · have hi' : s.size < i := by
      rw [leI_nat] at c0
      have := of_decide_eq_false c0
      omega
    have hfold : R = some l := by
      rcases hinv with h | ⟨_, h⟩
      · omega
      · exact h
    refine rs_exit ?_
    rw [e27b]
    exact hok l hfold

theorem s27 {s : ByteArray} (hs : s.size ≤ 1000000000) (Φ : AV → Ent → Prop) (h : Φ (gParse [.str s]) .none) : wFunS te nGE' Tryz.f27 [.str s] [] (datFin Φ) := by
  rw [v27]
  have bad : ∀ n : Int, parseP s = ([], n) → Φ (.tup [.sl 1 false [], .int .i64 n]) .none := by
    intro n hn
    simp only [gParse, hn] at h
    exact h
  refine ifB_both (fun c1 => bad 1 ?_) (fun c1 => ?_)
  · have : s.size = 0 := by have := eq_of_beq c1; omega
    unfold parseP
    rw [if_pos (by omega)]
  have hpos : 1 ≤ s.size := by
    rcases Nat.eq_zero_or_pos s.size with h0 | h0
    · rw [h0] at c1; exact absurd c1 (by decide)
    · exact h0
  have h0L : 0 < s.data.toList.length := by rw [← size_data]; omega
  have hsb := sb_eq s 0 47 h0L (by omega)
  refine ⟨by omega, ifB_both (fun c2 => bad 1 ?_) (fun c2 => ?_)⟩
  · unfold parseP
    rw [if_pos]
    rintro ⟨_, he⟩
    rw [List.getElem?_eq_getElem h0L] at he
    have he' := Option.some.inj he
    have : sb s 0 = 47 := hsb.2 he'
    rw [this] at c2
    exact absurd c2 (by decide)
  have h47 : s.data.toList[0]? = some 47 := by
    have : sb s 0 = 47 := by simpa using c2
    rw [List.getElem?_eq_getElem h0L, hsb.1 this]
    rfl
  obtain ⟨L, hL⟩ : ∃ L, L = s.data.toList := ⟨_, rfl⟩
  have hsz : s.size = L.length := by rw [hL]; rfl
  refine ⟨fun n st => ∃ i : Nat, i + n = s.size ∧ st = t27a s i ∧ ∀ k, k < i → L[k]? ≠ some 0, ⟨s.size, t27a s 0, ⟨0, by omega, rfl, fun k hk => by omega⟩, reT_to k27a 0 rfl (by omega) rfl⟩, ?_⟩
  rintro n st ⟨i, hi, rfl, hno⟩
  rw [b27a]
  refine ifB_both (fun c3 => ?_) (fun c3 => ?_)
  · rw [not_leI] at c3
    have c3' := of_decide_eq_true c3
    have hiL : i < L.length := by omega
    have hiL' : i < s.data.toList.length := by rw [← hL]; exact hiL
    have hsi := sb_eq s i 0 hiL' (by omega)
    have hgL : L[i] = s.data.toList[i] := by subst hL; rfl
    have hw : IntKind.i64.wrap ((i : Int) + 1) = ((i + 1 : Nat) : Int) := by rw [IntWalk.i64_in _ (by omega)]; omega
    refine ⟨by omega, ifB_both (fun c4 => ?_) (fun c4 => ?_)⟩
    · refine rs_ret ?_
      rw [r27]
      refine bad 1 ?_
      have : sb s (i : Int) = ((0 : Nat) : Int) := eq_of_beq c4
      have hm : (0 : UInt8) ∈ s.data.toList := by
        have := hsi.1 this
        rw [show UInt8.ofNat 0 = 0 from rfl] at this
        rw [← this]
        exact List.getElem_mem hiL'
      unfold parseP
      rw [if_neg (fun hn => hn ⟨hpos, h47⟩), if_pos hm]
    · rw [hw]
      refine ⟨n - 1, t27a s ((i + 1 : Nat) : Int), by omega, ⟨i + 1, by omega, rfl, fun k hk => ?_⟩, reT_to k27a 0 rfl (by omega) rfl⟩
      rcases Nat.lt_or_ge k i with hk1 | hk1
      · exact hno k hk1
      · have : k = i := by omega
        subst this
        rw [List.getElem?_eq_getElem hiL]
        intro he
        have he' := Option.some.inj he
        rw [hgL] at he'
        have : sb s (k : Int) = ((0 : Nat) : Int) := hsi.2 he'
        rw [this] at c4
        exact absurd c4 (by decide)
  · rw [not_leI] at c3
    have c3' := of_decide_eq_false c3
    have hn0 : ¬ (0 : UInt8) ∈ s.data.toList := by
      intro hm
      rw [← hL] at hm
      obtain ⟨k, hk, e⟩ := List.getElem_of_mem hm
      exact hno k (by omega) (by rw [List.getElem?_eq_getElem hk, e])
    refine rs_exit ?_
    rw [e27a]
    refine ifB_both (fun c5 => bad 9 ?_) (fun c5 => ?_)
    · rw [not_leI] at c5
      have := of_decide_eq_true c5
      unfold parseP
      rw [if_neg (fun hn => hn ⟨hpos, h47⟩), if_neg hn0, if_pos (by omega)]
    · rw [not_leI] at c5
      have c5' := of_decide_eq_false c5
      have hparse : parseP s = match foldP (spB s) [] with
          | some l => (l, 0)
          | none => ([], 9) := by
        unfold parseP
        rw [if_neg (fun hn => hn ⟨hpos, h47⟩), if_neg hn0, if_neg (by omega)]
        all_goals (cases foldP (spB s) [] <;> rfl)
      have hfirst : foldP ((sp 47 (s.data.toList.drop 1)).map ofL) [] = foldP (spB s) [] := by
        have : spB s = ofL [] :: (sp 47 (s.data.toList.drop 1)).map ofL := by
          unfold spB
          have hc : s.data.toList = 47 :: s.data.toList.drop 1 := by
            have h0 := List.getElem?_eq_some_iff.1 h47
            obtain ⟨hh, he⟩ := h0
            conv => lhs; rw [← List.drop_zero (l := s.data.toList), List.drop_eq_getElem_cons hh, he]
          conv => lhs; rw [hc, sp_cons_eq]
          rfl
        have hst : stepP [] (ofL []) = some [] := by unfold stepP; rw [if_pos (show ((ofL []).toList == (⟨#[]⟩ : ByteArray).toList) = true from beq_self_eq_true _)]
        rw [this, foldP_cons, hst]
      refine s27b (by omega) hfirst hpos Φ (fun l hl => ?_) (fun hl => ?_) (reT_to k27b 0 rfl (by omega) rfl)
      · have h' := h
        rw [hl] at hparse
        simp only [gParse, hparse] at h'
        exact h'
      · rw [hl] at hparse
        exact bad 9 hparse
theorem fn27 : SpecSound Tryz.prog 27 (.fn CParse gParse) := dat_soundS te_ok nGE'_sound mixed isFun_27 (by
  rintro xs Φ ⟨hC, h⟩
  unfold CParse at hC
  split at hC
  · exact s27 hC Φ h
  · cases hC)
end Go.Proofs.YtdojencjbmahpaaGreatDoor
end
