/-
  Of two rows of texts: what the two functions that compare them come to.
-/
import Derived.Test.YtdojencjbmahpaaGreatDoorSmB
import Derived.IntWalk
namespace Go.Proofs.YtdojencjbmahpaaGreatDoor
open Go.Rf
set_option maxRecDepth 100000
set_option linter.unusedVariables false

def AllStr (es : List (List AV)) : Prop := ∀ e ∈ es, ∃ s, e = [.str s]
def txt : List AV → ByteArray
  | [.str s] => s
  | _ => ⟨#[]⟩
def eqS : List (List AV) → List (List AV) → Bool
  | [], [] => true
  | e :: es, f :: fs => ((txt e).toList == (txt f).toList) && eqS es fs
  | _, _ => false
theorem eqS_len : ∀ (es fs : List (List AV)), es.length ≠ fs.length → eqS es fs = false
  | [], [], h => absurd rfl h
  | [], _ :: _, _ => rfl
  | _ :: _, [], _ => rfl
  | e :: es, f :: fs, h => by simp only [eqS]; rw [eqS_len es fs (by simpa using h), Bool.and_false]
theorem str_at {es : List (List AV)} (h : AllStr es) {i : Nat} (hi : i < es.length) : ∃ s, es[i]? = some [.str s] ∧ cellAt es i 0 = .str s := by
  have hg : es[i]? = some es[i] := List.getElem?_eq_getElem hi
  obtain ⟨s, hs⟩ := h es[i] (List.getElem_mem hi)
  rw [hs] at hg
  exact ⟨s, hg, by simp [cellAt, List.getD_eq_getElem?_getD, hg]⟩
theorem eqS_drop {es fs : List (List AV)} {i : Nat} {x y : ByteArray} (hx : es[i]? = some [.str x]) (hy : fs[i]? = some [.str y]) : eqS (es.drop i) (fs.drop i) = ((x.toList == y.toList) && eqS (es.drop (i + 1)) (fs.drop (i + 1))) := by
  obtain ⟨hi, hx'⟩ := List.getElem?_eq_some_iff.1 hx
  obtain ⟨hj, hy'⟩ := List.getElem?_eq_some_iff.1 hy
  rw [List.drop_eq_getElem_cons hi, List.drop_eq_getElem_cons hj, hx', hy']
  rfl

theorem s62 {es fs : List (List AV)} (a b : Bool) (h1 : AllStr es) (h2 : AllStr fs) (hb : es.length ≤ 9223372036854775806) (Φ : AV → Ent → Prop) (h : Φ (.bool (eqS es fs)) .none) : wFun te nGE Tryz.f62 [.sl 1 a es, .sl 1 b fs] [] (datFin Φ) := by
  rw [v62]
  refine ifB_both (fun hne => ?_) (fun hne => ?_)
  · have : es.length ≠ fs.length := by intro he; rw [he] at hne; simp at hne
    rw [eqS_len es fs this] at h
    exact h
  · have hl : es.length = fs.length := by
      by_cases he : es.length = fs.length
      · exact he
      · exfalso
        have : ((es.length : Int) != (fs.length : Int)) = true := by simp; omega
        rw [this] at hne
        cases hne
    refine ⟨k62, 0, fun n s => ∃ i : Nat, i + n = es.length ∧ s = t62 a b es fs i ∧ eqS es fs = eqS (es.drop i) (fs.drop i), Nat.le_refl 0, ⟨rfl, es.length, 0, by omega, rfl, rfl⟩, ?_⟩
    rintro n s ⟨i, hi, rfl, hinv⟩
    rw [b62]
    refine ifB_both (fun hlt => ?_) (fun hlt => ?_)
    · rw [not_leI] at hlt
      have hlt' : i < es.length := by have := of_decide_eq_true hlt; omega
      obtain ⟨x, hx, hx'⟩ := str_at h1 hlt'
      obtain ⟨y, hy, hy'⟩ := str_at h2 (show i < fs.length by omega)
      have hd := eqS_drop hx hy
      refine ⟨⟨by omega, by omega⟩, x, by rw [Int.toNat_natCast]; exact hx', ⟨by omega, by omega⟩, y, by rw [Int.toNat_natCast]; exact hy', ifB_both (fun hxy => ?_) (fun hxy => ?_)⟩
      · have : (x.toList == y.toList) = false := by simpa using hxy
        rw [hinv, hd, this, Bool.false_and] at h
        exact h
      · have : (x.toList == y.toList) = true := by simpa using hxy
        rw [this, Bool.true_and] at hd
        refine ⟨rfl, n - 1, by omega, i + 1, by omega, ?_, hinv.trans hd⟩
        have hw : IntKind.i64.wrap ((i : Int) + 1) = ((i + 1 : Nat) : Int) := by rw [IntWalk.i64_in _ (by omega)]; rfl
        rw [hw]
        rfl
    · rw [not_leI] at hlt
      have hge : es.length ≤ i := by have := of_decide_eq_false hlt; omega
      have he1 : es.drop i = [] := List.drop_of_length_le hge
      have he2 : fs.drop i = [] := List.drop_of_length_le (by omega)
      rw [hinv, he1, he2] at h
      refine ⟨rfl, ?_⟩
      show wCode te nGE 0 (bodyAt Tryz.f62 [false, false, false]) (t62 a b es fs i) (endQ te Tryz.f62 (datFin Φ))
      rw [e62 (t62 a b es fs i) (datFin Φ) a b es fs i]
      exact h

theorem s31 {es fs : List (List AV)} (a b : Bool) (h1 : AllStr es) (h2 : AllStr fs) (hb : es.length ≤ 9223372036854775806) (Φ : AV → Ent → Prop) (h : Φ (.bool (eqS es fs)) .none) : wFun te nGE Tryz.f31 [.sl 1 a es, .sl 1 b fs] [] (datFin Φ) := by
  rw [v31]
  refine ifB_both (fun hne => ?_) (fun hne => ?_)
  · have : es.length ≠ fs.length := by intro he; rw [he] at hne; simp at hne
    rw [eqS_len es fs this] at h
    exact h
  · have hl : es.length = fs.length := by
      by_cases he : es.length = fs.length
      · exact he
      · exfalso
        have : ((es.length : Int) != (fs.length : Int)) = true := by simp; omega
        rw [this] at hne
        cases hne
    refine ⟨k31, 0, fun n s => ∃ i : Nat, i + n = es.length ∧ s = t31 a b es fs i ∧ eqS es fs = eqS (es.drop i) (fs.drop i), Nat.le_refl 0, ⟨rfl, es.length, 0, by omega, rfl, rfl⟩, ?_⟩
    rintro n s ⟨i, hi, rfl, hinv⟩
    rw [b31]
    refine ifB_both (fun hlt => ?_) (fun hlt => ?_)
    · rw [not_leI] at hlt
      have hlt' : i < es.length := by have := of_decide_eq_true hlt; omega
      obtain ⟨x, hx, hx'⟩ := str_at h1 hlt'
      obtain ⟨y, hy, hy'⟩ := str_at h2 (show i < fs.length by omega)
      have hd := eqS_drop hx hy
      refine ⟨⟨by omega, by omega⟩, x, by rw [Int.toNat_natCast]; exact hx', ⟨by omega, by omega⟩, y, by rw [Int.toNat_natCast]; exact hy', ifB_both (fun hxy => ?_) (fun hxy => ?_)⟩
      · have : (x.toList == y.toList) = false := by simpa using hxy
        rw [hinv, hd, this, Bool.false_and] at h
        exact h
      · have : (x.toList == y.toList) = true := by simpa using hxy
        rw [this, Bool.true_and] at hd
        refine ⟨rfl, n - 1, by omega, i + 1, by omega, ?_, hinv.trans hd⟩
        have hw : IntKind.i64.wrap ((i : Int) + 1) = ((i + 1 : Nat) : Int) := by rw [IntWalk.i64_in _ (by omega)]; rfl
        rw [hw]
        rfl
    · rw [not_leI] at hlt
      have hge : es.length ≤ i := by have := of_decide_eq_false hlt; omega
      have he1 : es.drop i = [] := List.drop_of_length_le hge
      have he2 : fs.drop i = [] := List.drop_of_length_le (by omega)
      rw [hinv, he1, he2] at h
      refine ⟨rfl, ?_⟩
      show wCode te nGE 0 (bodyAt Tryz.f31 [false, false, false]) (t31 a b es fs i) (endQ te Tryz.f31 (datFin Φ))
      rw [e31 (t31 a b es fs i) (datFin Φ) a b es fs i]
      exact h
end Go.Proofs.YtdojencjbmahpaaGreatDoor
