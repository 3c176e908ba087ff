/-
  LIBRARY FUNCTIONS, part 8: how often a byte is in a string, and where: the model's own entries.
-/
import Derived.Test.YtdojencjbmahpaaGreatDoorRhI
import Derived.Lib.Bytealg
set_option linter.unusedVariables false
set_option linter.unusedSimpArgs false
namespace Go.Rf

def xCount : List AV → Option (AV × Ent)
  | [.str s, .int .u8 c] => some (.int .i64 ((Go.Lib.countByte s.data.toList c.toNat.toUInt8 : Nat) : Int), .none)
  | _ => none
def xIndexB : List AV → Option (AV × Ent)
  | [.str s, .int .u8 c] => some (.int .i64 (Go.Lib.indexByte s.data.toList c.toNat.toUInt8), .none)
  | _ => none

section
variable {P : Program}

theorem extern_dat {f : FuncId} {g : List AV → Option (AV × Ent)} (h : ∀ (w : World) (S : Nat → Prop) (ρ : Reg) (xs : List AV) (args : Array Value) (x : AV) (e : Ent), ArgsRd w S ρ 0 xs args → g xs = some (x, e) → e = .none ∧ ∃ v, (callFunc f args).run P w = .ok (.value v) w ∧ Rd w S ρ 0 x v) :
    SpecSound P f (XS.spec (.dat g)) := by
  rintro w S ρ xs args Φ hS hargs ⟨x, e, hx, hΦ⟩
  have hno : ∀ (ρ : Reg) k, ¬ Own ρ [] k := by rintro ρ k ⟨p, e, he, _⟩; simp at he
  have hm : RH w S ρ [] := ⟨by simp, by simp, fun k hk => ⟨hS k hk, hno ρ k⟩⟩
  obtain ⟨rfl, v, hr, hv⟩ := h w S ρ xs args x e hargs hx
  exact .inr ⟨v, w, hr, x, .none, S, ρ, hΦ, trivial, hm, hv, Goes.refl w S ρ [] (Nat.zero_le _)⟩

theorem two_args {w : World} {S : Nat → Prop} {ρ : Reg} {n : Nat} {s : ByteArray} {c : Int} {args : Array Value} (h : ArgsRd w S ρ n [.str s, .int .u8 c] args) : args = #[.string s, .int .u8 c] := by
  obtain ⟨hs, hr⟩ := h
  have hs : args.size = 2 := hs
  have h0 : 0 < args.size := by rw [hs]; decide
  have h1 : 1 < args.size := by rw [hs]; decide
  have r0 := hr 0 _ args[0] rfl (Array.getElem?_eq_getElem h0)
  have r1 := hr 1 _ args[1] rfl (Array.getElem?_eq_getElem h1)
  apply Array.ext
  · rw [hs]; rfl
  · intro i hi hi2
    have : i < 2 := hi2
    rcases i with _ | _ | i
    · generalize hg : args[0] = v0 at r0
      cases r0
      rfl
    · generalize hg : args[1] = v1 at r1
      cases r1
      rfl
    · omega

theorem count_sound {f : FuncId} {fn : Func} (hf : P.funcs[f]? = some fn) (hname : (fn.name == "runtime.NumGoroutine") = false) (hb : fn.body.isNone = true) (hn : Extern.findNext fn = none) (he : Extern.find fn = some Extern.BytealgCount.count) :
    SpecSound P f (XS.spec (.dat xCount)) := by
  refine extern_dat ?_
  intro w S ρ xs args x e hargs hx
  unfold xCount at hx
  split at hx
  · rename_i s c
    simp only [Option.some.injEq, Prod.mk.injEq] at hx
    obtain ⟨rfl, rfl⟩ := hx
    refine ⟨rfl, _, ?_, .int _ _ _⟩
    rw [two_args hargs, run_callFunc_extern hf hname hb hn he, Go.Lib.run_countString]
    rfl
  · cases hx
theorem indexB_sound {f : FuncId} {fn : Func} (hf : P.funcs[f]? = some fn) (hname : (fn.name == "runtime.NumGoroutine") = false) (hb : fn.body.isNone = true) (hn : Extern.findNext fn = none) (he : Extern.find fn = some Extern.BytealgIndexByte.indexByte) :
    SpecSound P f (XS.spec (.dat xIndexB)) := by
  refine extern_dat ?_
  intro w S ρ xs args x e hargs hx
  unfold xIndexB at hx
  split at hx
  · rename_i s c
    simp only [Option.some.injEq, Prod.mk.injEq] at hx
    obtain ⟨rfl, rfl⟩ := hx
    refine ⟨rfl, _, ?_, .int _ _ _⟩
    rw [two_args hargs, run_callFunc_extern hf hname hb hn he, Go.Lib.run_indexByteString]
    rfl
  · cases hx

end
end Go.Rf
