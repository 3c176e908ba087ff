/-
  Texts of the proof, put together: U0, Vp, Va, Vb, Vc, Wa.
-/
import Derived.Test.YtdojencjbmahpaaGe
import Derived.Test.YtdojencjbmahpaaGd
/-
  Helpers of the texts of the first seat; what is told by a name.
-/
section
namespace Go.Proofs.Ytdojencjbmahpaa
open Go.Rf
set_option maxRecDepth 100000
set_option linter.unusedVariables false
set_option linter.unusedSimpArgs false
theorem lt_of_nleI {a b : Int} (h : (!leI a b) = true) : b < a := by rw [not_leI] at h; exact of_decide_eq_true h
theorem le_of_nleI {a b : Int} (h : (!leI a b) = false) : a ≤ b := by rw [not_leI] at h; have := of_decide_eq_false h; omega
theorem le_of_leI {a b : Int} (h : leI a b = true) : a ≤ b := by rw [leI_dec] at h; exact of_decide_eq_true h
theorem lt_of_leI {a b : Int} (h : leI a b = false) : b < a := by rw [leI_dec] at h; have := of_decide_eq_false h; omega
theorem ne_of_bne {α : Type} [BEq α] [LawfulBEq α] {a b : α} (h : (a != b) = true) : a ≠ b := by simpa using h
theorem eq_of_nbne {α : Type} [BEq α] [LawfulBEq α] {a b : α} (h : (a != b) = false) : a = b := by simpa using h
theorem phi_eq {Φ : AV → Ent → Prop} {a b : AV} (h : Φ a .none) (e : b = a) : Φ b .none := e ▸ h
/-- A node's cells, told one by one. -/
def nA (r : List AV) : AV := .agg (cells r)
def iA (r : List AV) : AV := .agg [.int .i64 (nI r 0), .int .i64 (nI r 1), .int .i64 (nI r 2), .int .i64 (nI r 3), .int .i64 (nI r 4)]
def dA (a b c : Int) (es : List (List AV)) : AV := .agg [(.int .i64 a), (.int .i64 b), (.int .i64 c), (.sl 8 false es)]
def oA (ok : Int) (op ot : ByteArray) (om oa on : Int) (od : List (List AV)) : AV := .agg [(.int .i64 ok), (.str op), (.str ot), (.int .i64 om), (.int .i64 oa), (.int .i64 on), (.sl 1 false od)]
def dV (a b c : Int) (es : List (List AV)) : Ent := .var [(.int .i64 a), (.int .i64 b), (.int .i64 c), (.sl 8 false es)]
def oV (ok : Int) (op ot : ByteArray) (om oa on : Int) (od : List (List AV)) : Ent := .var [(.int .i64 ok), (.str op), (.str ot), (.int .i64 om), (.int .i64 oa), (.int .i64 on), (.sl 1 false od)]
def zV  : Ent := .var [(.int .i64 0), (.int .i64 0), (.int .i64 0), (.sl 8 true ([] : List (List AV)))]
end Go.Proofs.Ytdojencjbmahpaa
end
/-
  Rising rows: where a key is, or would be; a row more, a row less.
-/
section
namespace Go.Proofs.Ytdojencjbmahpaa
open Go.Rf
set_option linter.unusedVariables false
set_option linter.unusedSimpArgs false
theorem toList_loop (b : ByteArray) : ∀ (n i : Nat) (r : List UInt8), b.size - i = n → ByteArray.toList.loop b i r = r.reverse ++ b.data.toList.drop i
  | 0, i, r, h => by
    unfold ByteArray.toList.loop
    rw [if_neg (by omega), List.drop_of_length_le (by show b.data.size ≤ i; have : b.size = b.data.size := rfl; omega), List.append_nil]
  | n + 1, i, r, h => by
    unfold ByteArray.toList.loop
    have hs : b.size = b.data.size := rfl
    rw [if_pos (by omega), toList_loop b n (i + 1) _ (by omega)]
    have hd : b.data.toList.drop i = b.data.toList[i]'(by simp; omega) :: b.data.toList.drop (i + 1) := List.drop_eq_getElem_cons _
    have hg : b.get! i = b.data.toList[i]'(by simp; omega) := by
      show b.data[i]! = _
      rw [getElem!_pos b.data i (by omega)]
      simp
    rw [hd, List.reverse_cons, hg]
    simp
theorem toList_data (b : ByteArray) : b.toList = b.data.toList := by
  show ByteArray.toList.loop b 0 [] = _
  rw [toList_loop b _ 0 [] rfl]
  simp
theorem toList_inj {a b : ByteArray} (h : a.toList = b.toList) : a = b := by
  rw [toList_data, toList_data] at h
  cases a; cases b
  simp at h
  subst h; rfl

section
variable {κ : Type} (key : List AV → κ) (lt : κ → κ → Bool)
/-- A strict order. -/
structure Ord : Prop where
  trans : ∀ {a b c}, lt a b = true → lt b c = true → lt a c = true
  irrefl : ∀ a, lt a a = false
  total : ∀ {a b}, lt a b = false → lt b a = false → a = b
def Rise (es : List (List AV)) : Prop := es.Pairwise fun e f => lt (key e) (key f) = true
def posG (es : List (List AV)) (k : κ) : Nat := (es.takeWhile fun e => lt (key e) k).length
/-- Where a key is, or would be: what is in front, what is behind. -/
structure Split (es A B : List (List AV)) (k : κ) : Prop where
  cat : es = A ++ B
  pos : posG key lt es k = A.length
  lo : ∀ a ∈ A, lt (key a) k = true
  hi : ∀ b ∈ B, lt (key b) k = false
variable {key lt}
theorem split_ex (ho : Ord lt) {es : List (List AV)} (h : Rise key lt es) (k : κ) : ∃ A B, Split key lt es A B k := by
  refine ⟨es.takeWhile fun e => lt (key e) k, es.dropWhile fun e => lt (key e) k, (List.takeWhile_append_dropWhile).symm, rfl, ?_, ?_⟩
  · intro a ha
    have : ∀ (l : List (List AV)), a ∈ l.takeWhile (fun e => lt (key e) k) → lt (key a) k = true := by
      intro l
      induction l with
      | nil => intro h; cases h
      | cons x l ih =>
        intro h
        rw [List.takeWhile_cons] at h
        split at h
        · rename_i hx
          rcases List.mem_cons.1 h with rfl | h
          · exact hx
          · exact ih h
        · cases h
    exact this es ha
  · have : ∀ (l : List (List AV)), Rise key lt l → ∀ b ∈ l.dropWhile (fun e => lt (key e) k), lt (key b) k = false := by
      intro l
      induction l with
      | nil => intro _ b h; cases h
      | cons x l ih =>
        intro hr b hb
        rw [List.dropWhile_cons] at hb
        have hr' := List.pairwise_cons.1 hr
        split at hb
        · exact ih hr'.2 b hb
        · rename_i hx
          have hx' : lt (key x) k = false := by simpa using hx
          rcases List.mem_cons.1 hb with rfl | hb
          · exact hx'
          · cases hk : lt (key b) k with
            | false => rfl
            | true => rw [ho.trans (hr'.1 b hb) hk] at hx'; cases hx'
    exact this es h
theorem Split.found (ho : Ord lt) {es A B : List (List AV)} {k : κ} (s : Split key lt es A B k) (h : Rise key lt es) {b : List AV} {B' : List (List AV)} (hB : B = b :: B') (hb : key b = k) : ∀ x ∈ B', lt k (key x) = true := by
  intro x hx
  rw [s.cat, hB] at h
  have := (List.pairwise_append.1 h).2.1
  have := (List.pairwise_cons.1 this).1 x hx
  rw [hb] at this
  exact this
theorem Split.missing (ho : Ord lt) {es A B : List (List AV)} {k : κ} (s : Split key lt es A B k) (h : Rise key lt es) (hB : ∀ b B', B = b :: B' → key b ≠ k) : ∀ x ∈ B, lt k (key x) = true := by
  intro x hx
  cases B with
  | nil => cases hx
  | cons b B' =>
    have hne := hB b B' rfl
    have hbk := s.hi b (List.mem_cons_self ..)
    have hkb : lt k (key b) = true := by
      cases hk : lt k (key b) with
      | true => rfl
      | false => exact absurd (ho.total hbk hk) hne
    rcases List.mem_cons.1 hx with rfl | hx
    · exact hkb
    · rw [s.cat] at h
      have := (List.pairwise_append.1 h).2.1
      exact ho.trans hkb ((List.pairwise_cons.1 this).1 x hx)
theorem Split.put (ho : Ord lt) {es A B : List (List AV)} {k : κ} (s : Split key lt es A B k) (h : Rise key lt es) {r : List AV} (hr : key r = k) {B' : List (List AV)} (hB : ∀ x ∈ B', lt k (key x) = true) (hp : Rise key lt B') : Rise key lt (A ++ r :: B') := by
  rw [s.cat] at h
  obtain ⟨h1, h2, h3⟩ := List.pairwise_append.1 h
  refine List.pairwise_append.2 ⟨h1, List.pairwise_cons.2 ⟨fun x hx => by rw [hr]; exact hB x hx, hp⟩, fun a ha x hx => ?_⟩
  rcases List.mem_cons.1 hx with rfl | hx
  · rw [hr]; exact s.lo a ha
  · exact ho.trans (s.lo a ha) (hB x hx)
end
theorem ordI : Ord (fun a b : Int => decide (a < b)) := ⟨fun h1 h2 => by simp at *; omega, fun a => by simp, fun h1 h2 => by simp at *; omega⟩
theorem less_total : ∀ {x y : List UInt8}, Op.bytesLess x y = false → Op.bytesLess y x = false → x = y
  | [], [], _, _ => rfl
  | [], y :: ys, h, _ => by simp [Op.bytesLess] at h
  | x :: xs, [], _, h => by simp [Op.bytesLess] at h
  | x :: xs, y :: ys, h1, h2 => by
    simp only [Op.bytesLess, Bool.or_eq_false_iff, Bool.and_eq_false_iff, decide_eq_false_iff_not, beq_eq_false_iff_ne] at h1 h2
    have hxy : x = y := by
      have a := h1.1; have b := h2.1
      exact UInt8.le_antisymm (UInt8.not_lt.1 b) (UInt8.not_lt.1 a)
    subst hxy
    rw [less_total (h1.2.resolve_left (by simp)) (h2.2.resolve_left (by simp))]
theorem ordS : Ord ltS := ⟨fun h1 h2 => ltS_trans h1 h2, fun a => less_irrefl _, fun h1 h2 => toList_inj (less_total h1 h2)⟩
theorem rise_nodes {es : List (List AV)} (h : IsNodes es) : Rise inI (fun a b : Int => decide (a < b)) es := h.2.1.imp fun hh => decide_eq_true hh
theorem rise_names {es : List (List AV)} (h : IsNames es) : Rise txN ltS es := h.2.1
theorem posKI_eq (es : List (List AV)) (k : Int) : posKI es k = posG inI (fun a b : Int => decide (a < b)) es k := rfl
theorem posK_eq (es : List (List AV)) (k : ByteArray) : posK es k = posG txN ltS es k := rfl
/-- Found, or not: by what is behind. -/
def hdI (k : Int) : List (List AV) → Bool
  | b :: _ => inI b == k
  | [] => false
def hdS (k : ByteArray) : List (List AV) → Bool
  | b :: _ => (txN b).toList == k.toList
  | [] => false
theorem fndI_split {es A B : List (List AV)} {k : Int} (s : Split inI (fun a b : Int => decide (a < b)) es A B k) : fndI es k = hdI k B := by
  obtain ⟨cat, pos, _, _⟩ := s
  unfold fndI
  rw [posKI_eq, pos, cat, List.getElem?_append_right (Nat.le_refl _), Nat.sub_self]
  cases B <;> rfl
theorem fndN_split {es A B : List (List AV)} {k : ByteArray} (s : Split txN ltS es A B k) : fndN es k = hdS k B := by
  obtain ⟨cat, pos, _, _⟩ := s
  unfold fndN
  rw [posK_eq, pos, cat, List.getElem?_append_right (Nat.le_refl _), Nat.sub_self]
  cases B <;> rfl
/-- A node more, or another in its place; a node less. -/
def putR (es : List (List AV)) (r : List AV) : List (List AV) := if fndI es (inI r) = true then es.set (posKI es (inI r)) r else es.take (posKI es (inI r)) ++ r :: es.drop (posKI es (inI r))
def dropR (es : List (List AV)) (k : Int) : List (List AV) := if fndI es k = true then es.eraseIdx (posKI es k) else es
inductive SpI (es : List (List AV)) (k : Int) : Prop
  | yes (A : List (List AV)) (b : List AV) (B : List (List AV)) (cat : es = A ++ b :: B) (key : inI b = k) (lo : ∀ a ∈ A, inI a < k) (hi : ∀ x ∈ B, k < inI x) (fnd : fndI es k = true) (pos : posKI es k = A.length)
  | no (A B : List (List AV)) (cat : es = A ++ B) (lo : ∀ a ∈ A, inI a < k) (hi : ∀ x ∈ B, k < inI x) (fnd : fndI es k = false) (pos : posKI es k = A.length)
theorem spI {es : List (List AV)} (h : es.Pairwise (fun e f => inI e < inI f)) (k : Int) : SpI es k := by
  have hr : Rise inI (fun a b : Int => decide (a < b)) es := h.imp fun hh => decide_eq_true hh
  obtain ⟨A, B, s⟩ := split_ex ordI hr k
  have hf := fndI_split s
  cases B with
  | nil => exact .no A [] s.cat (fun a ha => of_decide_eq_true (s.lo a ha)) (by simp) hf s.pos
  | cons b B =>
    by_cases hb : inI b = k
    · exact .yes A b B s.cat hb (fun a ha => of_decide_eq_true (s.lo a ha)) (fun x hx => of_decide_eq_true (s.found ordI hr rfl hb x hx)) (by rw [hf]; simp [hdI, hb]) s.pos
    · exact .no A (b :: B) s.cat (fun a ha => of_decide_eq_true (s.lo a ha)) (fun x hx => of_decide_eq_true (s.missing ordI hr (fun b' B' e => by cases e; exact hb) x hx)) (by rw [hf]; simp [hdI, hb]) s.pos
theorem putR_yes {es A B : List (List AV)} {b r : List AV} (cat : es = A ++ b :: B) (fnd : fndI es (inI r) = true) (pos : posKI es (inI r) = A.length) : putR es r = A ++ r :: B := by
  unfold putR
  rw [if_pos fnd, pos, cat, List.set_append_right _ _ (Nat.le_refl _), Nat.sub_self]
  rfl
theorem putR_no {es A B : List (List AV)} {r : List AV} (cat : es = A ++ B) (fnd : fndI es (inI r) = false) (pos : posKI es (inI r) = A.length) : putR es r = A ++ r :: B := by
  unfold putR
  rw [if_neg (by rw [fnd]; decide), pos, cat, List.take_left, List.drop_left]
theorem dropR_yes {es A B : List (List AV)} {b : List AV} {k : Int} (cat : es = A ++ b :: B) (fnd : fndI es k = true) (pos : posKI es k = A.length) : dropR es k = A ++ B := by
  unfold dropR
  rw [if_pos fnd, pos, cat, List.eraseIdx_append_of_length_le (Nat.le_refl _), Nat.sub_self]
  rfl
theorem pw_mid {α : Type} {R : α → α → Prop} {A B : List α} {b r : α} (h : (A ++ b :: B).Pairwise R) (h1 : ∀ a ∈ A, R a r) (h2 : ∀ x ∈ B, R r x) : (A ++ r :: B).Pairwise R := by
  obtain ⟨p1, p2, p3⟩ := List.pairwise_append.1 h
  have p2' := List.pairwise_cons.1 p2
  refine List.pairwise_append.2 ⟨p1, List.pairwise_cons.2 ⟨h2, p2'.2⟩, fun a ha x hx => ?_⟩
  rcases List.mem_cons.1 hx with rfl | hx
  · exact h1 a ha
  · exact p3 a ha x (List.mem_cons_of_mem _ hx)
theorem pw_ins {α : Type} {R : α → α → Prop} {A B : List α} {r : α} (h : (A ++ B).Pairwise R) (h1 : ∀ a ∈ A, R a r) (h2 : ∀ x ∈ B, R r x) : (A ++ r :: B).Pairwise R := by
  obtain ⟨p1, p2, p3⟩ := List.pairwise_append.1 h
  refine List.pairwise_append.2 ⟨p1, List.pairwise_cons.2 ⟨h2, p2⟩, fun a ha x hx => ?_⟩
  rcases List.mem_cons.1 hx with rfl | hx
  · exact h1 a ha
  · exact p3 a ha x hx
theorem pw_del {α : Type} {R : α → α → Prop} {A B : List α} {b : α} (h : (A ++ b :: B).Pairwise R) : (A ++ B).Pairwise R := by
  obtain ⟨p1, p2, p3⟩ := List.pairwise_append.1 h
  exact List.pairwise_append.2 ⟨p1, (List.pairwise_cons.1 p2).2, fun a ha x hx => p3 a ha x (List.mem_cons_of_mem _ hx)⟩
theorem putR_ok {es : List (List AV)} {r : List AV} (h : IsNodes es) (hr : IsNode r) (hl : es.length < 1000000000) : IsNodes (putR es r) := by
  obtain ⟨h1, h2, h3⟩ := h
  cases spI h2 (inI r) with
  | yes A b B cat key lo hi fnd pos =>
    rw [putR_yes cat fnd pos]
    subst cat
    refine ⟨fun e he => ?_, pw_mid h2 lo hi, by simpa using h3⟩
    simp only [List.mem_append, List.mem_cons] at he h1
    rcases he with he | rfl | he
    · exact h1 e (.inl he)
    · exact hr
    · exact h1 e (.inr (.inr he))
  | no A B cat lo hi fnd pos =>
    rw [putR_no cat fnd pos]
    subst cat
    refine ⟨fun e he => ?_, pw_ins h2 lo hi, by simp at hl ⊢; omega⟩
    simp only [List.mem_append, List.mem_cons] at he h1
    rcases he with he | rfl | he
    · exact h1 e (.inl he)
    · exact hr
    · exact h1 e (.inr he)
theorem dropR_ok {es : List (List AV)} (h : IsNodes es) (k : Int) : IsNodes (dropR es k) := by
  obtain ⟨h1, h2, h3⟩ := h
  cases spI h2 k with
  | yes A b B cat key lo hi fnd pos =>
    rw [dropR_yes cat fnd pos]
    subst cat
    refine ⟨fun e he => ?_, pw_del h2, by simp at h3 ⊢; omega⟩
    simp only [List.mem_append, List.mem_cons] at he h1
    rcases he with he | he
    · exact h1 e (.inl he)
    · exact h1 e (.inr (.inr he))
  | no A B cat lo hi fnd pos =>
    unfold dropR
    rw [if_neg (by rw [fnd]; decide)]
    exact ⟨h1, h2, h3⟩
end Go.Proofs.Ytdojencjbmahpaa
end
/-
  Disks: the contracts of disk.Used, disk.Copy, disk.Put, disk.Drop.
-/
section
namespace Go.Proofs.Ytdojencjbmahpaa
open Go.Rf
set_option maxRecDepth 100000
set_option linter.unusedVariables false
set_option linter.unusedSimpArgs false
/-- slices.Insert, slices.Delete on an array of the call's own. -/
def insL (es : List (List AV)) (i : Int) (vs : List (List AV)) : List (List AV) := es.take i.toNat ++ vs ++ es.drop i.toNat
def delL (es : List (List AV)) (i j : Int) : List (List AV) := es.take i.toNat ++ es.drop j.toNat
def gInsE (sz bytes : Nat) (q ver len : Nat) (i : Int) (z : Nat) (vs : List (List AV)) (H : List Ent) (Φ : AV → List Ent → Prop) : Ent → Prop
  | .arr true v s none es => ((v = ver ∧ len = es.length ∧ s = sz) ∧ (0 ≤ i ∧ i ≤ (es.length : Int)) ∧ z = sz ∧ (es.length + vs.length ≤ 1000000 ∧ bytes ≤ 1000)) ∧ Φ (.own H.length 1 (insL es i vs).length) (setH (setH H q (.arr true (v + 1) sz none [])) H.length (.arr true 1 sz none (insL es i vs)))
  | _ => False
def gIns (sz bytes : Nat) : GSpec := fun xs H Φ => match xs with
  | [.own q ver len, .int .i64 i, .sl z _ vs] => gInsE sz bytes q ver len i z vs H Φ (H.getD q .none)
  | _ => False
def gDelE (sz : Nat) (q ver len : Nat) (i j : Int) (H : List Ent) (Φ : AV → List Ent → Prop) : Ent → Prop
  | .arr true v s none es => ((v = ver ∧ len = es.length ∧ s = sz) ∧ (0 ≤ i ∧ i ≤ j ∧ j ≤ (es.length : Int))) ∧ Φ (.own H.length 1 (delL es i j).length) (setH (setH H q (.arr true (v + 1) sz none [])) H.length (.arr true 1 sz none (delL es i j)))
  | _ => False
def gDel (sz : Nat) : GSpec := fun xs H Φ => match xs with
  | [.own q ver len, .int .i64 i, .int .i64 j] => gDelE sz q ver len i j H Φ (H.getD q .none)
  | _ => False
theorem gIns_of {P : Program} {f : FuncId} {sz bytes : Nat} (hs : SpecSound P f (XS.spec (.gen (xLend (xIns sz bytes) sz)))) : SpecSound P f (.gen (gIns sz bytes)) := by
  intro w S ρ H xs args Φ hm hargs hΦ
  unfold gIns at hΦ
  split at hΦ
  · rename_i q ver len i z fr vs
    cases hq : H.getD q .none with
    | none => rw [hq] at hΦ; cases hΦ
    | var => rw [hq] at hΦ; cases hΦ
    | arr cl v s cap es =>
      rw [hq] at hΦ
      cases cl with
      | false => cases hΦ
      | true =>
        cases cap with
        | some c => cases hΦ
        | none =>
          obtain ⟨⟨⟨rfl, rfl, rfl⟩, h2, rfl, h4, h5⟩, h3⟩ := hΦ
          refine hs w S ρ H _ args Φ hm hargs ⟨_, _, ?_, h3⟩
          show lendE (xIns z bytes) z q v es.length [.int .i64 i, .sl z fr vs] H (H.getD q .none) = _
          rw [hq]
          show whenB (andB (Nat.beq v v) (andB (Nat.beq es.length es.length) (Nat.beq z z))) (lendOut H q v z (xIns z bytes es [.int .i64 i, .sl z fr vs])) = _
          rw [Nat.beq_refl, Nat.beq_refl, Nat.beq_refl]
          show lendOut H q v z (whenB (andB (decide (0 ≤ i ∧ i ≤ (es.length : Int))) (andB (Nat.beq z z) (decide (es.length + vs.length ≤ 1000000 ∧ bytes ≤ 1000)))) (some (es.take i.toNat ++ vs ++ es.drop i.toNat))) = _
          rw [decide_eq_true h2, decide_eq_true ⟨h4, h5⟩, Nat.beq_refl]
          rfl
  · cases hΦ
theorem gDel_of {P : Program} {f : FuncId} {sz : Nat} (hs : SpecSound P f (XS.spec (.gen (xLend xDel sz)))) : SpecSound P f (.gen (gDel sz)) := by
  intro w S ρ H xs args Φ hm hargs hΦ
  unfold gDel at hΦ
  split at hΦ
  · rename_i q ver len i j
    cases hq : H.getD q .none with
    | none => rw [hq] at hΦ; cases hΦ
    | var => rw [hq] at hΦ; cases hΦ
    | arr cl v s cap es =>
      rw [hq] at hΦ
      cases cl with
      | false => cases hΦ
      | true =>
        cases cap with
        | some c => cases hΦ
        | none =>
          obtain ⟨⟨⟨rfl, rfl, rfl⟩, h2⟩, h3⟩ := hΦ
          refine hs w S ρ H _ args Φ hm hargs ⟨_, _, ?_, h3⟩
          show lendE xDel s q v es.length [.int .i64 i, .int .i64 j] H (H.getD q .none) = _
          rw [hq]
          show whenB (andB (Nat.beq v v) (andB (Nat.beq es.length es.length) (Nat.beq s s))) (lendOut H q v s (xDel es [.int .i64 i, .int .i64 j])) = _
          rw [Nat.beq_refl, Nat.beq_refl, Nat.beq_refl]
          show lendOut H q v s (whenB (decide (0 ≤ i ∧ i ≤ j ∧ j ≤ (es.length : Int))) (some (es.take i.toNat ++ es.drop j.toNat))) = _
          rw [decide_eq_true h2]
          rfl
  · cases hΦ
/-! disk.Used -/
def usedR (es : List (List AV)) : Nat := (es.map fun r => (sI r 5).length).sum
def CDk : List AV → Prop
  | [.agg [.int .i64 _, .int .i64 _, .int .i64 _, .sl 8 false es]] => IsNodes es
  | _ => False
def gUsed : List AV → AV
  | [.agg [_, _, _, .sl _ _ es]] => .tup [.int .i64 (usedR es : Int), .int .i64 (es.length : Int)]
  | _ => .junk
theorem isFun_31 : IsFun Try.prog 31 Try.f31 := ⟨Try.func31, by kernel_rfl, by kernel_rfl⟩
theorem v31 (a b c : Int) (es : List (List AV)) (Φ : AV → Ent → Prop) : wFunC te nGE' Try.f31 [(dA a b c es)] [] (datFin Φ) = (wLoopC 0 (wCodeC te nGE' 0 (bodyAt Try.f31 [false, true, false, true, true])) ⟨((dA a b c es) :: ((.ptr 0 0) :: ((.int .i64 0) :: ((.int .i64 0) :: (jk 2 ((.ptr 0 3) :: ((.sl 8 false es) :: ((.int .i64 (es.length : Int)) :: ((.int .i64 0) :: (jk 14 [])))))))))), [(dV a b c es)]⟩ (blkQ 0 (seqQ (wCodeC te nGE' 0 (bodyAt Try.f31 [false, false])) (endQ te Try.f31 (datFin Φ))))) := by kernel_rfl
def t31 (a b c : Int) (es : List (List AV)) (n i : Int) : St := ⟨(jk 1 ((.ptr 0 0) :: ((.int .i64 n) :: (jk 4 ((.sl 8 false es) :: ((.int .i64 (es.length : Int)) :: ((.int .i64 i) :: (jk 14 [])))))))), [(dV a b c es)]⟩
def k31 : List Bool := [false, true, true, false, false, false, false, true, true, true, false, false, false, false, false, false, false, false, false, false, false, false, false, false]
theorem b31 (a b c : Int) (es : List (List AV)) (n i : Int) (K : KontX) (Φ : AV → Ent → Prop) : wCodeC te nGE' 0 (bodyAt Try.f31 [false, true, false, true, true]) (t31 a b c es n i) (cutK ((endQ te Try.f31 (datFin Φ)) .ret) k31 1 K) = (ifB (!leI (es.length : Int) i) ((0 ≤ i ∧ i < (es.length : Int)) ∧ (∃ n1, cellAt es i.toNat 0 = (.int .i64 n1) ∧ ∃ n2, cellAt es i.toNat 1 = (.int .i64 n2) ∧ ∃ n3, cellAt es i.toNat 2 = (.int .i64 n3) ∧ ∃ n4, cellAt es i.toNat 3 = (.int .i64 n4) ∧ ∃ n5, cellAt es i.toNat 4 = (.int .i64 n5) ∧ ∃ r6, cellAt es i.toNat 5 = (.sl 2 false r6) ∧ ∃ s7, cellAt es i.toNat 6 = (.str s7) ∧ ∃ r8, cellAt es i.toNat 7 = (.sl 2 false r8) ∧ (K .normal (t31 a b c es (IntKind.i64.wrap (n + (r6.length : Int))) (IntKind.i64.wrap (i + 1)))))) (K (.exit 0) (t31 a b c es n i))) := by kernel_rfl
theorem e31 (a b c : Int) (es : List (List AV)) (n i : Int) (Φ : AV → Ent → Prop) : wCodeC te nGE' 0 (bodyAt Try.f31 [false, false]) (t31 a b c es n i) (endQ te Try.f31 (datFin Φ)) = (Φ (.tup [(.int .i64 n), (.int .i64 (es.length : Int))]) .none) := by kernel_rfl
theorem ex_node {es : List (List AV)} (h : IsNodes es) {i : Nat} (hi : i < es.length) {G : Int → Int → Int → Int → Int → List (List AV) → ByteArray → List (List AV) → Prop}
    (hg : G (nI es[i] 0) (nI es[i] 1) (nI es[i] 2) (nI es[i] 3) (nI es[i] 4) (sI es[i] 5) (bI es[i]) (sI es[i] 7)) :
    ∃ n0, cellAt es i 0 = .int .i64 n0 ∧ ∃ n1, cellAt es i 1 = .int .i64 n1 ∧ ∃ n2, cellAt es i 2 = .int .i64 n2 ∧ ∃ n3, cellAt es i 3 = .int .i64 n3 ∧ ∃ n4, cellAt es i 4 = .int .i64 n4 ∧
      ∃ r5, cellAt es i 5 = .sl 2 false r5 ∧ ∃ s6, cellAt es i 6 = .str s6 ∧ ∃ r7, cellAt es i 7 = .sl 2 false r7 ∧ G n0 n1 n2 n3 n4 r5 s6 r7 := by
  obtain ⟨a, x2, x3, x4, x5, bl, t, nm, hrow, ⟨q0, q1, q2, q3, q4, q5, q6, q7⟩, _⟩ := node_at h hi
  rw [hrow] at hg
  exact ⟨_, q0, _, q1, _, q2, _, q3, _, q4, _, q5, _, q6, _, q7, hg⟩
theorem node_get {es : List (List AV)} (h : IsNodes es) {i : Nat} (hi : i < es.length) : IsNode es[i] := h.1 _ (List.getElem_mem hi)
theorem used_take {es : List (List AV)} {i : Nat} (hi : i < es.length) : usedR (es.take (i + 1)) = usedR (es.take i) + (sI es[i] 5).length := by
  unfold usedR
  rw [List.take_add_one, List.getElem?_eq_getElem hi, List.map_append, List.sum_append]
  simp
theorem used_le {es : List (List AV)} (h : ∀ r ∈ es, (sI r 5).length ≤ 1000000000) : usedR es ≤ es.length * 1000000000 := by
  induction es with
  | nil => simp [usedR]
  | cons r es ih =>
    have h1 := h r (List.mem_cons_self ..)
    have h2 := ih fun x hx => h x (List.mem_cons_of_mem _ hx)
    simp only [usedR, List.map_cons, List.sum_cons, List.length_cons] at h2 ⊢
    omega
theorem node_bl {r : List AV} (h : IsNode r) : (sI r 5).length ≤ 1000000000 := (node_blocks h).2.2
theorem used_bound {es : List (List AV)} (h : IsNodes es) (i : Nat) : usedR (es.take i) ≤ 1000000000000000000 := by
  have h1 := used_le (es := es.take i) fun r hr => node_bl (h.1 r (List.mem_of_mem_take hr))
  have h2 : (es.take i).length ≤ 1000000000 := by rw [List.length_take]; have := h.2.2; omega
  have h3 : (es.take i).length * 1000000000 ≤ 1000000000 * 1000000000 := Nat.mul_le_mul_right _ h2
  omega
theorem s31 {a b c : Int} {es : List (List AV)} (hn : IsNodes es) (Φ : AV → Ent → Prop) (h : Φ (.tup [.int .i64 (usedR es : Int), .int .i64 (es.length : Int)]) .none) : wFunC te nGE' Try.f31 [dA a b c es] [] (datFin Φ) := by
  have hl := hn.2.2
  rw [v31]
  refine loopC k31 1 (fun n st => ∃ i : Nat, i + n = es.length ∧ st = t31 a b c es (usedR (es.take i)) i) (by omega) ⟨es.length, _, ⟨0, by omega, rfl⟩, reT_to k31 1 rfl (by omega) rfl⟩ ?_
  rintro n st ⟨i, hi, rfl⟩
  rw [b31]
  refine ifB_both (fun c1 => ?_) (fun c1 => ?_)
  · have c1' := lt_of_nleI c1
    have hlt : i < es.length := by omega
    refine ⟨by omega, ex_node hn hlt ?_⟩
    have hb := used_bound hn (i + 1)
    have ht := used_take hlt
    have hw : IntKind.i64.wrap ((i : Int) + 1) = ((i + 1 : Nat) : Int) := by rw [IntWalk.i64_in _ (by omega)]; omega
    have hw2 : IntKind.i64.wrap ((usedR (es.take i) : Int) + ((sI es[i] 5).length : Int)) = (usedR (es.take (i + 1)) : Int) := by rw [IntWalk.i64_in _ (by omega)]; omega
    rw [hw, hw2]
    exact rc_next (n - 1) (by omega) ⟨i + 1, by omega, rfl⟩
  · have c1' := le_of_nleI c1
    refine rc_exit ?_
    rw [e31, List.take_of_length_le (by omega)]
    exact h
theorem fn31 : SpecSound Try.prog 31 (.fn CDk gUsed) := dat_soundC te_ok nGE'_sound mixed isFun_31 (by
  rintro xs Φ ⟨hC, h⟩
  unfold CDk at hC
  split at hC
  · exact s31 hC Φ h
  · cases hC)
/-! disk.Copy: the nodes are an array of the caller's own. -/
theorem isFun_57 : IsFun Try.prog 57 Try.f57 := ⟨Try.func57, by kernel_rfl, by kernel_rfl⟩
def GE57 : GE := fun f => match f with
  | 58 => some (.fn CNode gNode)
  | 93 => some (.gen (gClone 8 104))
  | _ => none
theorem GE57_sound : Sound Try.prog GE57 := by
  intro f sp h
  unfold GE57 at h
  split at h
  · cases h; exact fn58
  · cases h; exact (gClone_of clone_93)
  · cases h
theorem v57 (a b c : Int) (es : List (List AV)) (Φ : AV → List Ent → Prop) : wFunC te GE57 Try.f57 [(dA a b c es)] [] Φ = ((8 = 8 ∧ room es.length 104) ∧ (wLoopC 0 (wCodeC te GE57 0 (bodyAt Try.f57 [false, false, true, false, true, true])) ⟨((dA a b c es) :: ((.ptr 0 0) :: ((.ptr 1 0) :: (jk 2 ((.ptr 0 3) :: ((.sl 8 false es) :: ((.own 2 1 es.length) :: ((.ptr 0 3) :: ((.ptr 0 3) :: ((.own 2 1 es.length) :: ((.int .i64 (es.length : Int)) :: ((.int .i64 0) :: (jk 12 []))))))))))))), [(.var [(.int .i64 a), (.int .i64 b), (.int .i64 c), (.own 2 1 es.length)]), zV, (.arr true 1 8 none es)]⟩ (blkQ 0 (seqQ (wCodeC te GE57 0 (bodyAt Try.f57 [false, false, false])) (endQ te Try.f57 Φ))))) := by kernel_rfl
def t57 (a b c : Int) (es : List (List AV)) (i : Int) (m : Nat) : St := ⟨(jk 1 ((.ptr 0 0) :: ((.ptr 1 0) :: (jk 7 ((.own 2 1 m) :: ((.int .i64 (m : Int)) :: ((.int .i64 i) :: (jk 12 [])))))))), [(.var [(.int .i64 a), (.int .i64 b), (.int .i64 c), (.own 2 1 m)]), zV, (.arr true 1 8 none es)]⟩
def k57 : List Bool := [false, true, true, false, false, false, false, false, false, false, true, true, true, false, false, false, false, false, false, false, false, false, false, false, false]
theorem b57 (a b c : Int) (es : List (List AV)) (i : Int) (m : Nat) (K : KontX) (Φ : AV → List Ent → Prop) : wCodeC te GE57 0 (bodyAt Try.f57 [false, false, true, false, true, true]) (t57 a b c es i m) (cutK ((endQ te Try.f57 Φ) .ret) k57 3 K) = (ifB (!leI (m : Int) i) ((0 ≤ i ∧ i < (m : Int)) ∧ ((1 = 1 ∧ (i).toNat < es.length) ∧ (∃ n9, cellAt es (i).toNat 0 = (.int .i64 n9) ∧ ∃ n10, cellAt es (i).toNat 1 = (.int .i64 n10) ∧ ∃ n11, cellAt es (i).toNat 2 = (.int .i64 n11) ∧ ∃ n12, cellAt es (i).toNat 3 = (.int .i64 n12) ∧ ∃ n13, cellAt es (i).toNat 4 = (.int .i64 n13) ∧ ∃ r14, cellAt es (i).toNat 5 = (.sl 2 false r14) ∧ ∃ s15, cellAt es (i).toNat 6 = (.str s15) ∧ ∃ r16, cellAt es (i).toNat 7 = (.sl 2 false r16) ∧ (CNode [(.agg [(.int .i64 n9), (.int .i64 n10), (.int .i64 n11), (.int .i64 n12), (.int .i64 n13), (.sl 2 false r14), (.str s15), (.sl 2 false r16)])] ∧ ((0 ≤ i ∧ i < (m : Int)) ∧ ((1 = 1 ∧ (i).toNat < es.length) ∧ (K .normal (t57 a b c (es.set (i).toNat (setCells (es.getD (i).toNat []) 0 [(.int .i64 n9), (.int .i64 n10), (.int .i64 n11), (.int .i64 n12), (.int .i64 n13), (.sl 2 false r14), (.str s15), (.sl 2 false r16)])) (IntKind.i64.wrap (i + 1)) m)))))))) (K (.exit 0) (t57 a b c es i m))) := by kernel_rfl
theorem e57 (a b c : Int) (es : List (List AV)) (i : Int) (m : Nat) (Φ : AV → List Ent → Prop) : wCodeC te GE57 0 (bodyAt Try.f57 [false, false, false]) (t57 a b c es i m) (endQ te Try.f57 Φ) = (Φ (.agg [(.int .i64 a), (.int .i64 b), (.int .i64 c), (.own 2 1 m)]) [(.var [(.int .i64 a), (.int .i64 b), (.int .i64 c), (.own 2 1 m)]), (.var [(.int .i64 a), (.int .i64 b), (.int .i64 c), (.own 2 1 m)]), (.arr true 1 8 none es)]) := by kernel_rfl
def gCopy : List AV → AV
  | [.agg [a, b, c, .sl _ _ es]] => .agg [a, b, c, .own 0 1 es.length]
  | _ => .junk
def hCopy : List AV → Ent
  | [.agg [_, _, _, .sl _ _ es]] => .arr true 1 8 none es
  | _ => .none
theorem set_row {es : List (List AV)} {i : Nat} (hi : i < es.length) (h : IsNode es[i]) : es.set i (setCells (es.getD i []) 0 [.int .i64 (nI es[i] 0), .int .i64 (nI es[i] 1), .int .i64 (nI es[i] 2), .int .i64 (nI es[i] 3), .int .i64 (nI es[i] 4), .sl 2 false (sI es[i] 5), .str (bI es[i]), .sl 2 false (sI es[i] 7)]) = es := by
  have : setCells (es.getD i []) 0 (cells es[i]) = es[i] := by
    rw [List.getD_eq_getElem?_getD, List.getElem?_eq_getElem hi]
    show setCells es[i] 0 (cells es[i]) = es[i]
    obtain ⟨_, _, _, _, _, _, _, _, he, _⟩ := h
    rw [he]
    rfl
  show es.set i (setCells (es.getD i []) 0 (cells es[i])) = es
  rw [this]
  exact List.set_getElem_self hi
theorem s57 {a b c : Int} {es : List (List AV)} (hn : IsNodes es) (Φ : AV → List Ent → Prop)
    (h : Φ (.agg [.int .i64 a, .int .i64 b, .int .i64 c, .own 2 1 es.length]) [.var [.int .i64 a, .int .i64 b, .int .i64 c, .own 2 1 es.length], .var [.int .i64 a, .int .i64 b, .int .i64 c, .own 2 1 es.length], .arr true 1 8 none es]) :
    wFunC te GE57 Try.f57 [dA a b c es] [] Φ := by
  have hl := hn.2.2
  rw [v57]
  refine ⟨⟨rfl, by unfold room; omega⟩, loopC k57 3 (fun n st => ∃ i : Nat, i + n = es.length ∧ st = t57 a b c es i es.length) (by omega) ⟨es.length, _, ⟨0, by omega, rfl⟩, reT_to k57 3 rfl (by omega) rfl⟩ ?_⟩
  rintro n st ⟨i, hi, rfl⟩
  rw [b57]
  refine ifB_both (fun c1 => ?_) (fun c1 => ?_)
  · have c1' := lt_of_nleI c1
    have hlt : i < es.length := by omega
    have hnode := node_get hn hlt
    refine ⟨by omega, ⟨rfl, hlt⟩, ex_node hn hlt ⟨⟨node_blocks hnode, (node_names hnode).2.2⟩, by omega, ⟨rfl, hlt⟩, ?_⟩⟩
    have hw : IntKind.i64.wrap ((i : Int) + 1) = ((i + 1 : Nat) : Int) := by rw [IntWalk.i64_in _ (by omega)]; omega
    rw [hw, Int.toNat_natCast, set_row hlt hnode]
    exact rc_next (n - 1) (by omega) ⟨i + 1, by omega, rfl⟩
  · refine rc_exit ?_
    rw [e57]
    exact h
theorem fn57 : SpecSound Try.prog 57 (.fe CDk gCopy hCopy) := dat_soundO te_ok GE57_sound mixed isFun_57 3 (by
  rintro xs Φ ⟨hC, h⟩
  unfold CDk at hC
  split at hC
  · exact ⟨_, _, _, _, s57 hC _ ⟨rfl, rfl⟩, rfl, h⟩
  · cases hC)
/-! disk.Put, disk.Drop -/
theorem isFun_32 : IsFun Try.prog 32 Try.f32 := ⟨Try.func32, by kernel_rfl, by kernel_rfl⟩
def GE32 : GE := fun f => match f with
  | 56 => some (.fn CPN gPN)
  | 57 => some (.fe CDk gCopy hCopy)
  | 58 => some (.fn CNode gNode)
  | 59 => some (.gen (gIns 8 104))
  | _ => none
theorem GE32_sound : Sound Try.prog GE32 := by
  intro f sp h
  unfold GE32 at h
  split at h
  · cases h; exact fn56
  · cases h; exact fn57
  · cases h; exact fn58
  · cases h; exact (gIns_of insert_59)
  · cases h
theorem v32 (a b c : Int) (es : List (List AV)) (d0 d1 d2 d3 d4 : Int) (bl nm : List (List AV)) (t : ByteArray) (Φ : AV → Ent → Prop) : wFunC te GE32 Try.f32 [(dA a b c es), (.agg [(.int .i64 d0), (.int .i64 d1), (.int .i64 d2), (.int .i64 d3), (.int .i64 d4), (.sl 2 false bl), (.str t), (.sl 2 false nm)])] [] (datFin Φ) = (CPN [(dA a b c es), (.int .i64 d0)] ∧ (CDk [(dA a b c es)] ∧ (ifB (fndI es d0) (CNode [(.agg [(.int .i64 d0), (.int .i64 d1), (.int .i64 d2), (.int .i64 d3), (.int .i64 d4), (.sl 2 false bl), (.str t), (.sl 2 false nm)])] ∧ ((0 ≤ (posI es d0) ∧ (posI es d0) < (es.length : Int)) ∧ ((1 = 1 ∧ ((posI es d0)).toNat < es.length) ∧ ((1 = 1 ∧ es.length = (es.set ((posI es d0)).toNat (setCells (es.getD ((posI es d0)).toNat []) 0 [(.int .i64 d0), (.int .i64 d1), (.int .i64 d2), (.int .i64 d3), (.int .i64 d4), (.sl 2 false bl), (.str t), (.sl 2 false nm)])).length) ∧ (Φ (dA a b c (es.set ((posI es d0)).toNat (setCells (es.getD ((posI es d0)).toNat []) 0 [(.int .i64 d0), (.int .i64 d1), (.int .i64 d2), (.int .i64 d3), (.int .i64 d4), (.sl 2 false bl), (.str t), (.sl 2 false nm)]))) .none))))) (CNode [(.agg [(.int .i64 d0), (.int .i64 d1), (.int .i64 d2), (.int .i64 d3), (.int .i64 d4), (.sl 2 false bl), (.str t), (.sl 2 false nm)])] ∧ (((1 = 1 ∧ es.length = es.length ∧ 8 = 8) ∧ (0 ≤ (posI es d0) ∧ (posI es d0) ≤ (es.length : Int)) ∧ 8 = 8 ∧ (es.length + 1 ≤ 1000000 ∧ 104 ≤ 1000)) ∧ ((1 = 1 ∧ (insL es (posI es d0) [[(.int .i64 d0), (.int .i64 d1), (.int .i64 d2), (.int .i64 d3), (.int .i64 d4), (.sl 2 false bl), (.str t), (.sl 2 false nm)]]).length = (insL es (posI es d0) [[(.int .i64 d0), (.int .i64 d1), (.int .i64 d2), (.int .i64 d3), (.int .i64 d4), (.sl 2 false bl), (.str t), (.sl 2 false nm)]]).length) ∧ (Φ (dA a b c (insL es (posI es d0) [[(.int .i64 d0), (.int .i64 d1), (.int .i64 d2), (.int .i64 d3), (.int .i64 d4), (.sl 2 false bl), (.str t), (.sl 2 false nm)]])) .none))))))) := by kernel_rfl
def CPut : List AV → Prop
  | [.agg [.int .i64 _, .int .i64 _, .int .i64 _, .sl 8 false es], .agg r] => IsNodes es ∧ IsNode r ∧ es.length < 1000000
  | _ => False
def gPut : List AV → AV
  | [.agg [a, b, c, .sl _ _ es], .agg r] => .agg [a, b, c, .sl 8 false (putR es r)]
  | _ => .junk
theorem posI_nn (es : List (List AV)) (k : Int) : 0 ≤ posI es k := by unfold posI; omega
theorem posI_le (es : List (List AV)) (k : Int) : posKI es k ≤ es.length := (List.takeWhile_sublist _).length_le
theorem fn32 : SpecSound Try.prog 32 (.fn CPut gPut) := dat_soundC te_ok GE32_sound mixed isFun_32 (by
  rintro xs Φ ⟨hC, h⟩
  unfold CPut at hC
  split at hC
  · rename_i a b c es r
    obtain ⟨hn, hr, hl⟩ := hC
    have hr' := hr
    obtain ⟨d0, d1, d2, d3, d4, bl, t, nm, rfl, hbl, hnm⟩ := hr'
    have h' : Φ (dA a b c (putR es [.int .i64 d0, .int .i64 d1, .int .i64 d2, .int .i64 d3, .int .i64 d4, .sl 2 false bl, .str t, .sl 2 false nm])) .none := h
    refine Eq.mpr (v32 ..) ?_
    have hp : posI es d0 = (posKI es d0 : Int) := rfl
    refine ⟨hn, hn, ifB_both (fun c1 => ⟨⟨hbl, hnm.2.2⟩, ?_⟩) (fun c1 => ⟨⟨hbl, hnm.2.2⟩, ?_⟩)⟩
    · have hlt := fndI_lt c1
      have hset : setCells (es.getD (posI es d0).toNat []) 0 [.int .i64 d0, .int .i64 d1, .int .i64 d2, .int .i64 d3, .int .i64 d4, .sl 2 false bl, .str t, .sl 2 false nm] = [.int .i64 d0, .int .i64 d1, .int .i64 d2, .int .i64 d3, .int .i64 d4, .sl 2 false bl, .str t, .sl 2 false nm] := by
        rw [hp, Int.toNat_natCast, List.getD_eq_getElem?_getD, List.getElem?_eq_getElem hlt]
        obtain ⟨_, _, _, _, _, _, _, _, he, _⟩ := node_get hn hlt
        rw [he]
        rfl
      rw [hset, hp, Int.toNat_natCast]
      refine ⟨by omega, ⟨rfl, hlt⟩, ⟨rfl, by simp⟩, ?_⟩
      unfold putR at h'
      rw [if_pos (show fndI es (inI [AV.int .i64 d0, .int .i64 d1, .int .i64 d2, .int .i64 d3, .int .i64 d4, .sl 2 false bl, .str t, .sl 2 false nm]) = true from c1)] at h'
      exact h'
    · have hle := posI_le es d0
      refine ⟨⟨⟨rfl, rfl, rfl⟩, ⟨posI_nn _ _, by omega⟩, rfl, by omega, by omega⟩, ⟨rfl, rfl⟩, ?_⟩
      unfold putR at h'
      rw [if_neg (show ¬ fndI es (inI [AV.int .i64 d0, .int .i64 d1, .int .i64 d2, .int .i64 d3, .int .i64 d4, .sl 2 false bl, .str t, .sl 2 false nm]) = true from by show ¬ fndI es d0 = true; rw [c1]; decide)] at h'
      have he : insL es (posI es d0) [[.int .i64 d0, .int .i64 d1, .int .i64 d2, .int .i64 d3, .int .i64 d4, .sl 2 false bl, .str t, .sl 2 false nm]] = es.take (posKI es d0) ++ [.int .i64 d0, .int .i64 d1, .int .i64 d2, .int .i64 d3, .int .i64 d4, .sl 2 false bl, .str t, .sl 2 false nm] :: es.drop (posKI es d0) := by
        unfold insL
        rw [hp, Int.toNat_natCast, List.append_assoc]
        rfl
      rw [he]
      exact h'
  · cases hC)
def CDrop : List AV → Prop
  | [.agg [.int .i64 _, .int .i64 _, .int .i64 _, .sl 8 false es], .int .i64 _] => IsNodes es
  | _ => False
def gDrop : List AV → AV
  | [.agg [a, b, c, .sl _ _ es], .int _ k] => .agg [a, b, c, .sl 8 false (dropR es k)]
  | _ => .junk
end Go.Proofs.Ytdojencjbmahpaa
end
/-
  Names in a directory: the contracts of find.Without, find.With.
-/
section
namespace Go.Proofs.Ytdojencjbmahpaa
open Go.Rf
set_option maxRecDepth 100000
set_option linter.unusedVariables false
set_option linter.unusedSimpArgs false
/-! disk.node: the names are an array of the caller's own. -/
def gNodeO : List AV → AV
  | [.agg [a, b, c, d, e, .sl _ _ bl, t, .sl _ _ nm]] => .agg [a, b, c, d, e, .sl 2 false bl, t, .own 0 1 nm.length]
  | _ => .junk
def hNodeO : List AV → Ent
  | [.agg [_, _, _, _, _, _, _, .sl _ _ nm]] => .arr true 1 2 none nm
  | _ => .none
def CNodeF : List AV → Prop
  | [.agg [.int .i64 _, .int .i64 _, .int .i64 _, .int .i64 _, .int .i64 _, .sl 2 false bl, .str _, .sl 2 false nm]] => IsBlocks bl ∧ nm.length ≤ 1000000000
  | _ => False
def GEn : GE := fun f => match f with
  | 94 => some (.fn CFile gFile)
  | 95 => some (.gen (gClone 2 24))
  | _ => none
theorem GEn_sound : Sound Try.prog GEn := by
  intro f sp h
  unfold GEn at h
  split at h
  · cases h; exact fn94
  · cases h; exact (gClone_of clone_95)
  · cases h
theorem vo58 (d0 d1 d2 d3 d4 : Int) (bl nm : List (List AV)) (t : ByteArray) (Φ : AV → List Ent → Prop) : wFunC te GEn Try.f58 [(.agg [(.int .i64 d0), (.int .i64 d1), (.int .i64 d2), (.int .i64 d3), (.int .i64 d4), (.sl 2 false bl), (.str t), (.sl 2 false nm)])] [] Φ = (CFile [(.agg [(.int .i64 d4), (.sl 2 false bl)])] ∧ ((2 = 2 ∧ room nm.length 24) ∧ (Φ (.agg [(.int .i64 d0), (.int .i64 d1), (.int .i64 d2), (.int .i64 d3), (.int .i64 d4), (.sl 2 false bl), (.str t), (.own 2 1 nm.length)]) [(.var [(.int .i64 d0), (.int .i64 d1), (.int .i64 d2), (.int .i64 d3), (.int .i64 d4), (.sl 2 false bl), (.str t), (.own 2 1 nm.length)]), (.var [(.int .i64 d0), (.int .i64 d1), (.int .i64 d2), (.int .i64 d3), (.int .i64 d4), (.sl 2 false bl), (.str t), (.own 2 1 nm.length)]), (.arr true 1 2 none nm)]))) := by kernel_rfl
theorem fo58 : SpecSound Try.prog 58 (.fe CNodeF gNodeO hNodeO) := dat_soundO te_ok GEn_sound mixed isFun_58 7 (by
  rintro xs Φ ⟨hC, h⟩
  unfold CNodeF at hC
  split at hC
  · refine ⟨_, _, _, _, Eq.mpr (vo58 ..) ⟨hC.1, ⟨rfl, by unfold room; omega⟩, rfl, rfl⟩, rfl, h⟩
  · cases hC)
theorem isFun_59 : IsFun Try.prog 59 Try.f59 := ⟨Try.func59, by kernel_rfl, by kernel_rfl⟩
def GI32 : GE := fun f => match f with
  | 56 => some (.fn CPN gPN)
  | 57 => some (.fe CDk gCopy hCopy)
  | 58 => some (.fe CNodeF gNodeO hNodeO)
  | 59 => some (.gen (wFunC te nGE' Try.f59))
  | _ => none
theorem GI32_sound : Sound Try.prog GI32 := by
  intro f sp h
  unfold GI32 at h
  split at h
  · cases h; exact fn56
  · cases h; exact fn57
  · cases h; exact fo58
  · cases h; exact (fun_soundC te_ok nGE'_sound mixed isFun_59)
  · cases h
theorem isFun_60 : IsFun Try.prog 60 Try.f60 := ⟨Try.func60, by kernel_rfl, by kernel_rfl⟩
def GEw : GE := fun f => match f with
  | 32 => some (.gen (wFunC te GI32 Try.f32))
  | 55 => some (.fn CPl gPl)
  | 98 => some (.gen (gDel 2))
  | _ => none
theorem GEw_sound : Sound Try.prog GEw := by
  intro f sp h
  unfold GEw at h
  split at h
  · cases h; exact (fun_soundC te_ok GI32_sound mixed isFun_32)
  · cases h; exact fn55
  · cases h; exact (gDel_of delete_98)
  · cases h
theorem v60 (d0 d1 d2 d3 d4 : Int) (bl nm : List (List AV)) (t : ByteArray) (s : ByteArray) (Φ : AV → List Ent → Prop) : wFunC te GEw Try.f60 [(.agg [(.int .i64 d0), (.int .i64 d1), (.int .i64 d2), (.int .i64 d3), (.int .i64 d4), (.sl 2 false bl), (.str t), (.sl 2 false nm)]), (.str s)] [] Φ = (CPN [(dA 0 0 0 ([] : List (List AV))), (.int .i64 d0)] ∧ (CDk [(dA 0 0 0 ([] : List (List AV)))] ∧ (CNodeF [(.agg [(.int .i64 d0), (.int .i64 d1), (.int .i64 d2), (.int .i64 d3), (.int .i64 d4), (.sl 2 false bl), (.str t), (.sl 2 false nm)])] ∧ ((0 ≤ (0 : Int) ∧ (0 : Int) ≤ (0 : Int) ∧ (0 : Int) ≤ (0 : Int)) ∧ (((1 = 1 ∧ 1 = 1) ∧ (fits 8 8 [[(.int .i64 d0), (.int .i64 d1), (.int .i64 d2), (.int .i64 d3), (.int .i64 d4), (.sl 2 false bl), (.str t), (.own 10 1 nm.length)]] = true ∧ 1 = 1 ∧ 0 = 0 ∧ room (0 + 1) 104)) ∧ ((0 ≤ (0 : Int) ∧ (0 : Int) < (1 : Int)) ∧ (((1 + 1) = (1 + 1) ∧ 0 < 1) ∧ ((1 = 1 ∧ nm.length = nm.length) ∧ (CPl [(.agg [(.int .i64 d0), (.int .i64 d1), (.int .i64 d2), (.int .i64 d3), (.int .i64 d4), (.sl 2 false bl), (.str t), (.sl 2 false nm)]), (.str s)] ∧ (((True ∧ True ∧ True) ∧ Ent.none = Ent.none) ∧ (ifB (fndN nm s) (((1 = 1 ∧ nm.length = nm.length ∧ 2 = 2) ∧ (0 ≤ (posN nm s) ∧ (posN nm s) ≤ (IntKind.i64.wrap ((posN nm s) + 1)) ∧ (IntKind.i64.wrap ((posN nm s) + 1)) ≤ (nm.length : Int))) ∧ (Φ (.agg [(.int .i64 d0), (.int .i64 d1), (.int .i64 d2), (.int .i64 d3), (.int .i64 d4), (.sl 2 false bl), (.str t), (.own 13 1 (delL nm (posN nm s) (IntKind.i64.wrap ((posN nm s) + 1))).length)]) [(.var [(.int .i64 d0), (.int .i64 d1), (.int .i64 d2), (.int .i64 d3), (.int .i64 d4), (.sl 2 false bl), (.str t), (.own 13 1 (delL nm (posN nm s) (IntKind.i64.wrap ((posN nm s) + 1))).length)]), (.var [(.int .i64 d0), (.int .i64 d1), (.int .i64 d2), (.int .i64 d3), (.int .i64 d4), (.sl 2 false bl), (.str t), (.own 13 1 (delL nm (posN nm s) (IntKind.i64.wrap ((posN nm s) + 1))).length)]), (.var [(.int .i64 0), (.int .i64 0), (.int .i64 0), (.own 5 (1 + 1) 1)]), (.var [(.int .i64 d0), (.int .i64 d1), (.int .i64 d2), (.int .i64 d3), (.int .i64 d4), (.sl 2 false bl), (.str t), (.sl 2 false nm)]), (.var [(.int .i64 0), (.int .i64 0), (.int .i64 0), (.own 5 (1 + 1) 1)]), (.arr false (1 + 1) 8 none [[(.int .i64 d0), (.int .i64 d1), (.int .i64 d2), (.int .i64 d3), (.int .i64 d4), (.sl 2 false bl), (.str t), (.own 10 1 nm.length)]]), .none, .none, .none, .none, (.arr true (1 + 1) 2 none ([] : List (List AV))), (.arr false 1 8 none [[(.int .i64 d0), (.int .i64 d1), (.int .i64 d2), (.int .i64 d3), (.int .i64 d4), (.sl 2 false bl), (.str t), (.own 10 1 nm.length)]]), (.var [(.int .i64 0), (.int .i64 0), (.int .i64 0), (.own 5 (1 + 1) 1)]), (.arr true 1 2 none (delL nm (posN nm s) (IntKind.i64.wrap ((posN nm s) + 1))))])) (Φ (.agg [(.int .i64 d0), (.int .i64 d1), (.int .i64 d2), (.int .i64 d3), (.int .i64 d4), (.sl 2 false bl), (.str t), (.own 10 1 nm.length)]) [(.var [(.int .i64 d0), (.int .i64 d1), (.int .i64 d2), (.int .i64 d3), (.int .i64 d4), (.sl 2 false bl), (.str t), (.own 10 1 nm.length)]), (.var [(.int .i64 d0), (.int .i64 d1), (.int .i64 d2), (.int .i64 d3), (.int .i64 d4), (.sl 2 false bl), (.str t), (.own 10 1 nm.length)]), (.var [(.int .i64 0), (.int .i64 0), (.int .i64 0), (.own 5 (1 + 1) 1)]), (.var [(.int .i64 d0), (.int .i64 d1), (.int .i64 d2), (.int .i64 d3), (.int .i64 d4), (.sl 2 false bl), (.str t), (.sl 2 false nm)]), (.var [(.int .i64 0), (.int .i64 0), (.int .i64 0), (.own 5 (1 + 1) 1)]), (.arr false (1 + 1) 8 none [[(.int .i64 d0), (.int .i64 d1), (.int .i64 d2), (.int .i64 d3), (.int .i64 d4), (.sl 2 false bl), (.str t), (.own 10 1 nm.length)]]), .none, .none, .none, .none, (.arr true 1 2 none nm), (.arr false 1 8 none [[(.int .i64 d0), (.int .i64 d1), (.int .i64 d2), (.int .i64 d3), (.int .i64 d4), (.sl 2 false bl), (.str t), (.own 10 1 nm.length)]]), (.var [(.int .i64 0), (.int .i64 0), (.int .i64 0), (.own 5 (1 + 1) 1)])])))))))))))) := by kernel_rfl
/-- A name less; a name more. -/
def withoutN (nm : List (List AV)) (s : ByteArray) : List (List AV) := if fndN nm s = true then nm.eraseIdx (posK nm s) else nm
def withN (nm : List (List AV)) (s : ByteArray) (k : Int) : List (List AV) := (withoutN nm s).take (posK (withoutN nm s) s) ++ [.str s, .int .i64 k] :: (withoutN nm s).drop (posK (withoutN nm s) s)
inductive SpN (es : List (List AV)) (k : ByteArray) : Prop
  | yes (A : List (List AV)) (b : List AV) (B : List (List AV)) (cat : es = A ++ b :: B) (key : txN b = k) (lo : ∀ a ∈ A, ltS (txN a) k = true) (hi : ∀ x ∈ B, ltS k (txN x) = true) (fnd : fndN es k = true) (pos : posK es k = A.length)
  | no (A B : List (List AV)) (cat : es = A ++ B) (lo : ∀ a ∈ A, ltS (txN a) k = true) (hi : ∀ x ∈ B, ltS k (txN x) = true) (fnd : fndN es k = false) (pos : posK es k = A.length)
theorem spN {es : List (List AV)} (hr : Rise txN ltS es) (k : ByteArray) : SpN es k := by
  obtain ⟨A, B, s⟩ := split_ex ordS hr k
  have hf := fndN_split s
  cases B with
  | nil => exact .no A [] s.cat s.lo (by simp) hf s.pos
  | cons b B =>
    by_cases hb : txN b = k
    · exact .yes A b B s.cat hb s.lo (fun x hx => s.found ordS hr rfl hb x hx) (by rw [hf]; simp [hdS, hb]) s.pos
    · refine .no A (b :: B) s.cat s.lo (fun x hx => s.missing ordS hr (fun b' B' e => by cases e; exact hb) x hx) ?_ s.pos
      rw [hf]
      exact beq_false_of_ne fun h => hb (toList_inj h)
theorem withoutN_len (nm : List (List AV)) (s : ByteArray) : (withoutN nm s).length ≤ nm.length := by
  unfold withoutN
  split
  · exact (List.eraseIdx_sublist _ _).length_le
  · exact Nat.le_refl _
theorem withoutN_ok {nm : List (List AV)} (h : IsNames nm) (s : ByteArray) : IsNames (withoutN nm s) := by
  refine ⟨fun e he => h.1 e ?_, h.2.1.sublist ?_, Nat.le_trans (withoutN_len nm s) h.2.2⟩
  · unfold withoutN at he
    split at he
    · exact (List.eraseIdx_sublist _ _).subset he
    · exact he
  · unfold withoutN
    split
    · exact List.eraseIdx_sublist _ _
    · exact List.Sublist.refl _
theorem withoutN_lo {nm : List (List AV)} (h : IsNames nm) (s : ByteArray) : ∃ A B, withoutN nm s = A ++ B ∧ (∀ a ∈ A, ltS (txN a) s = true) ∧ (∀ x ∈ B, ltS s (txN x) = true) ∧ posK (withoutN nm s) s = A.length := by
  have h2 := withoutN_ok h s
  cases spN (rise_names h2) s with
  | no A B cat lo hi fnd pos => exact ⟨A, B, cat, lo, hi, pos⟩
  | yes A b B cat key lo hi fnd pos =>
    exfalso
    cases spN (rise_names h) s with
    | no A' B' cat' lo' hi' fnd' pos' =>
      have : withoutN nm s = nm := by unfold withoutN; rw [if_neg (by rw [fnd']; decide)]
      rw [this, fnd'] at fnd
      cases fnd
    | yes A' b' B' cat' key' lo' hi' fnd' pos' =>
      have he : withoutN nm s = A' ++ B' := by
        unfold withoutN
        rw [if_pos fnd', pos', cat', List.eraseIdx_append_of_length_le (Nat.le_refl _), Nat.sub_self]
        rfl
      have hb : b ∈ A' ++ B' := by rw [← he, cat]; simp
      rcases List.mem_append.1 hb with hb | hb
      · have := lo' b hb
        rw [key, ordS.irrefl] at this
        cases this
      · have := hi' b hb
        rw [key, ordS.irrefl] at this
        cases this
theorem withN_ok {nm : List (List AV)} (h : IsNames nm) (s : ByteArray) (k : Int) (hl : nm.length < 1000000000) : IsNames (withN nm s k) := by
  obtain ⟨A, B, cat, lo, hi, pos⟩ := withoutN_lo h s
  have h2 := withoutN_ok h s
  have hlen := withoutN_len nm s
  unfold withN
  rw [pos, cat, List.take_left, List.drop_left]
  obtain ⟨p1, p2, p3⟩ := h2
  rw [cat] at p1 p2 hlen
  refine ⟨fun e he => ?_, pw_ins p2 lo hi, by simp at hlen ⊢; omega⟩
  simp only [List.mem_append, List.mem_cons] at he p1
  rcases he with he | rfl | he
  · exact p1 e (.inl he)
  · exact ⟨s, k, rfl⟩
  · exact p1 e (.inr he)
def CWo : List AV → Prop
  | [.agg [.int .i64 _, .int .i64 _, .int .i64 _, .int .i64 _, .int .i64 _, .sl 2 false bl, .str _, .sl 2 false nm], .str _] => IsBlocks bl ∧ IsNames nm
  | _ => False
def gWoO : List AV → AV
  | [.agg [a, b, c, d, e, .sl _ _ bl, t, .sl _ _ nm], .str s] => .agg [a, b, c, d, e, .sl 2 false bl, t, .own 0 1 (withoutN nm s).length]
  | _ => .junk
def hWoO : List AV → Ent
  | [.agg [_, _, _, _, _, _, _, .sl _ _ nm], .str s] => .arr true 1 2 none (withoutN nm s)
  | _ => .none
theorem ifB_yes {b : Bool} {A B : Prop} (h : b = true) (ha : A) : ifB b A B := by subst h; exact ha
theorem ifB_no {b : Bool} {A B : Prop} (h : b = false) (hb : B) : ifB b A B := by subst h; exact hb
theorem posN_w {nm : List (List AV)} {s : ByteArray} (h : IsNames nm) (hf : fndN nm s = true) : IntKind.i64.wrap (posN nm s + 1) = ((posK nm s + 1 : Nat) : Int) ∧ posK nm s < nm.length := by
  have hlt : posK nm s < nm.length := by
    rcases Nat.lt_or_ge (posK nm s) nm.length with hh | hh
    · exact hh
    · unfold fndN at hf
      rw [List.getElem?_eq_none hh] at hf
      cases hf
  have hp : posN nm s = (posK nm s : Int) := rfl
  have := h.2.2
  exact ⟨by rw [hp, IntWalk.i64_in _ (by omega)]; omega, hlt⟩
theorem fo60 : SpecSound Try.prog 60 (.fe CWo gWoO hWoO) := dat_soundO te_ok GEw_sound mixed isFun_60 7 (by
  rintro xs Φ ⟨hC, h⟩
  unfold CWo at hC
  split at hC
  · rename_i d0 d1 d2 d3 d4 bl t nm s
    obtain ⟨hbl, hnm⟩ := hC
    have h0 : IsNodes [] := ⟨by simp, by simp, by simp⟩
    have hl := hnm.2.2
    have h' : Φ (.agg [.int .i64 d0, .int .i64 d1, .int .i64 d2, .int .i64 d3, .int .i64 d4, .sl 2 false bl, .str t, .own 0 1 (withoutN nm s).length]) (.arr true 1 2 none (withoutN nm s)) := h
    have hp : posN nm s = (posK nm s : Int) := rfl
    cases hf : fndN nm s with
    | true =>
      obtain ⟨hw, hlt⟩ := posN_w hnm hf
      have he : delL nm (posN nm s) (IntKind.i64.wrap (posN nm s + 1)) = withoutN nm s := by
        unfold withoutN delL
        rw [hw, hp, if_pos hf, Int.toNat_natCast, Int.toNat_natCast, List.eraseIdx_eq_take_drop_succ]
      rw [← he] at h'
      have hb : 0 ≤ posN nm s ∧ posN nm s ≤ IntKind.i64.wrap (posN nm s + 1) ∧ IntKind.i64.wrap (posN nm s + 1) ≤ (nm.length : Int) := by rw [hw, hp]; omega
      exact ⟨_, _, _, _, Eq.mpr (v60 ..) ⟨h0, h0, ⟨hbl, hl⟩, by omega, ⟨⟨rfl, rfl⟩, rfl, rfl, rfl, by decide⟩, by omega, ⟨rfl, by decide⟩, ⟨rfl, rfl⟩, hnm, ⟨⟨trivial, trivial, trivial⟩, rfl⟩, ifB_yes hf ⟨⟨⟨rfl, rfl, rfl⟩, hb⟩, rfl, rfl⟩⟩, rfl, h'⟩
    | false =>
      have he : withoutN nm s = nm := by unfold withoutN; rw [if_neg (by rw [hf]; decide)]
      rw [he] at h'
      exact ⟨_, _, _, _, Eq.mpr (v60 ..) ⟨h0, h0, ⟨hbl, hl⟩, by omega, ⟨⟨rfl, rfl⟩, rfl, rfl, rfl, by decide⟩, by omega, ⟨rfl, by decide⟩, ⟨rfl, rfl⟩, hnm, ⟨⟨trivial, trivial, trivial⟩, rfl⟩, ifB_no hf ⟨rfl, rfl⟩⟩, rfl, h'⟩
  · cases hC)
end Go.Proofs.Ytdojencjbmahpaa
end
/-
  Names and nodes: the contracts of find.With and of tie's functions.
-/
section
namespace Go.Proofs.Ytdojencjbmahpaa
open Go.Rf
set_option maxRecDepth 100000
set_option linter.unusedVariables false
set_option linter.unusedSimpArgs false
def gWo : List AV → AV
  | [.agg [a, b, c, d, e, .sl _ _ bl, t, .sl _ _ nm], .str s] => .agg [a, b, c, d, e, .sl 2 false bl, t, .sl 2 false (withoutN nm s)]
  | _ => .junk
theorem fn60 : SpecSound Try.prog 60 (.fn CWo gWo) := fn_of_fe fo60 (by
  intro xs hC
  unfold CWo at hC
  split at hC
  · exact ⟨_, rfl, ⟨rfl, rfl⟩, trivial⟩
  · cases hC)
theorem isFun_33 : IsFun Try.prog 33 Try.f33 := ⟨Try.func33, by kernel_rfl, by kernel_rfl⟩
def GE33 : GE := fun f => match f with
  | 55 => some (.fn CPl gPl)
  | 60 => some (.fe CWo gWoO hWoO)
  | 61 => some (.gen (gIns 2 24))
  | _ => none
theorem GE33_sound : Sound Try.prog GE33 := by
  intro f sp h
  unfold GE33 at h
  split at h
  · cases h; exact fn55
  · cases h; exact fo60
  · cases h; exact (gIns_of insert_61)
  · cases h
theorem v33 (d0 d1 d2 d3 d4 : Int) (bl nm : List (List AV)) (t : ByteArray) (s : ByteArray) (k : Int) (Φ : AV → Ent → Prop) : wFunC te GE33 Try.f33 [(.agg [(.int .i64 d0), (.int .i64 d1), (.int .i64 d2), (.int .i64 d3), (.int .i64 d4), (.sl 2 false bl), (.str t), (.sl 2 false nm)]), (.str s), (.int .i64 k)] [] (datFin Φ) = (CWo [(.agg [(.int .i64 d0), (.int .i64 d1), (.int .i64 d2), (.int .i64 d3), (.int .i64 d4), (.sl 2 false bl), (.str t), (.sl 2 false nm)]), (.str s)] ∧ ((1 = 1 ∧ (withoutN nm s).length = (withoutN nm s).length) ∧ (CPl [(.agg [(.int .i64 d0), (.int .i64 d1), (.int .i64 d2), (.int .i64 d3), (.int .i64 d4), (.sl 2 false bl), (.str t), (.sl 2 false (withoutN nm s))]), (.str s)] ∧ (((True ∧ True ∧ True) ∧ Ent.none = Ent.none) ∧ (((1 = 1 ∧ (withoutN nm s).length = (withoutN nm s).length ∧ 2 = 2) ∧ (0 ≤ (posN (withoutN nm s) s) ∧ (posN (withoutN nm s) s) ≤ ((withoutN nm s).length : Int)) ∧ 2 = 2 ∧ ((withoutN nm s).length + 1 ≤ 1000000 ∧ 24 ≤ 1000)) ∧ ((1 = 1 ∧ (insL (withoutN nm s) (posN (withoutN nm s) s) [[(.str s), (.int .i64 k)]]).length = (insL (withoutN nm s) (posN (withoutN nm s) s) [[(.str s), (.int .i64 k)]]).length) ∧ (Φ (.agg [(.int .i64 d0), (.int .i64 d1), (.int .i64 d2), (.int .i64 d3), (.int .i64 d4), (.sl 2 false bl), (.str t), (.sl 2 false (insL (withoutN nm s) (posN (withoutN nm s) s) [[(.str s), (.int .i64 k)]]))]) .none))))))) := by kernel_rfl
def CWi : List AV → Prop
  | [.agg [.int .i64 _, .int .i64 _, .int .i64 _, .int .i64 _, .int .i64 _, .sl 2 false bl, .str _, .sl 2 false nm], .str _, .int .i64 _] => IsBlocks bl ∧ IsNames nm ∧ nm.length < 1000000
  | _ => False
def gWi : List AV → AV
  | [.agg [a, b, c, d, e, .sl _ _ bl, t, .sl _ _ nm], .str s, .int _ k] => .agg [a, b, c, d, e, .sl 2 false bl, t, .sl 2 false (withN nm s k)]
  | _ => .junk
theorem posN_le (es : List (List AV)) (k : ByteArray) : posK es k ≤ es.length := (List.takeWhile_sublist _).length_le
theorem fn33 : SpecSound Try.prog 33 (.fn CWi gWi) := dat_soundC te_ok GE33_sound mixed isFun_33 (by
  rintro xs Φ ⟨hC, h⟩
  unfold CWi at hC
  split at hC
  · rename_i d0 d1 d2 d3 d4 bl t nm s k
    obtain ⟨hbl, hnm, hl⟩ := hC
    have h' : Φ (.agg [.int .i64 d0, .int .i64 d1, .int .i64 d2, .int .i64 d3, .int .i64 d4, .sl 2 false bl, .str t, .sl 2 false (withN nm s k)]) .none := h
    have hw := withoutN_ok hnm s
    have hlen := withoutN_len nm s
    have hle := posN_le (withoutN nm s) s
    have hp : posN (withoutN nm s) s = (posK (withoutN nm s) s : Int) := rfl
    have he : insL (withoutN nm s) (posN (withoutN nm s) s) [[.str s, .int .i64 k]] = withN nm s k := by
      unfold insL withN
      rw [hp, Int.toNat_natCast, List.append_assoc]
      rfl
    refine Eq.mpr (v33 ..) ?_
    rw [he]
    exact ⟨⟨hbl, hnm⟩, ⟨rfl, rfl⟩, hw, ⟨⟨trivial, trivial, trivial⟩, rfl⟩, ⟨⟨rfl, rfl, rfl⟩, ⟨by omega, by omega⟩, rfl, by omega, by omega⟩, ⟨rfl, rfl⟩, h'⟩
  · cases hC)
/-! tie.got -/
def gGot : List AV → AV
  | [.agg [_, _, _, .sl _ _ es], .int _ k] => nA (rowI es k)
  | _ => .junk
theorem isFun_29 : IsFun Try.prog 29 Try.f29 := ⟨Try.func29, by kernel_rfl, by kernel_rfl⟩
def GE29 : GE := fun f => match f with
  | 43 => some (.fn CPN gGet')
  | _ => none
theorem GE29_sound : Sound Try.prog GE29 := by
  intro f sp h
  unfold GE29 at h
  split at h
  · cases h; exact fn43'
  · cases h
theorem v29 (a b c : Int) (es : List (List AV)) (k : Int) (Φ : AV → Ent → Prop) : wFunC te GE29 Try.f29 [(dA a b c es), (.int .i64 k)] [] (datFin Φ) = (CPN [(dA a b c es), (.int .i64 k)] ∧ (Φ (nA (rowI es k)) .none)) := by kernel_rfl
theorem fn29 : SpecSound Try.prog 29 (.fn CDrop gGot) := dat_soundC te_ok GE29_sound mixed isFun_29 (by
  rintro xs Φ ⟨hC, h⟩
  unfold CDrop at hC
  split at hC
  · exact Eq.mpr (v29 ..) ⟨hC, h⟩
  · cases hC)
/-- A node with other names; with another count of links. -/
def rowNm (r : List AV) (n : List (List AV)) : List AV := [.int .i64 (nI r 0), .int .i64 (nI r 1), .int .i64 (nI r 2), .int .i64 (nI r 3), .int .i64 (nI r 4), .sl 2 false (sI r 5), .str (bI r), .sl 2 false n]
def rowLk (r : List AV) (l : Int) : List AV := [.int .i64 (nI r 0), .int .i64 (nI r 1), .int .i64 (nI r 2), .int .i64 l, .int .i64 (nI r 4), .sl 2 false (sI r 5), .str (bI r), .sl 2 false (sI r 7)]
def nmA (r : List AV) (n : List (List AV)) : AV := .agg (rowNm r n)
def lkA (r : List AV) (l : Int) : AV := .agg (rowLk r l)
theorem isNode_nm {r : List AV} (h : IsNode r) {n : List (List AV)} (hn : IsNames n) : IsNode (rowNm r n) := ⟨_, _, _, _, _, _, _, _, rfl, node_blocks h, hn⟩
theorem isNode_lk {r : List AV} (h : IsNode r) (l : Int) : IsNode (rowLk r l) := ⟨_, _, _, _, _, _, _, _, rfl, node_blocks h, node_names h⟩
theorem putR_len (es : List (List AV)) (r : List AV) : (putR es r).length ≤ es.length + 1 := by
  unfold putR
  split
  · simp
  · simp
    omega
/-! tie.Make, tie.Link, tie.Drop, tie.Move -/
theorem isFun_8 : IsFun Try.prog 8 Try.f8 := ⟨Try.func8, by kernel_rfl, by kernel_rfl⟩
def GE8 : GE := fun f => match f with
  | 29 => some (.fn CDrop gGot)
  | 30 => some (.fn CPl gNm)
  | 31 => some (.fn CDk gUsed)
  | 32 => some (.fn CPut gPut)
  | 33 => some (.fn CWi gWi)
  | _ => none
theorem GE8_sound : Sound Try.prog GE8 := by
  intro f sp h
  unfold GE8 at h
  split at h
  · cases h; exact fn29
  · cases h; exact fn30
  · cases h; exact fn31
  · cases h; exact fn32
  · cases h; exact fn33
  · cases h
theorem v8 (a b c : Int) (es : List (List AV)) (up : Int) (s : ByteArray) (d0 d1 d2 d3 d4 : Int) (bl nm : List (List AV)) (t : ByteArray) (Φ : AV → Ent → Prop) : wFunC te GE8 Try.f8 [(dA a b c es), (.int .i64 up), (.str s), (.agg [(.int .i64 d0), (.int .i64 d1), (.int .i64 d2), (.int .i64 d3), (.int .i64 d4), (.sl 2 false bl), (.str t), (.sl 2 false nm)])] [] (datFin Φ) = (CDrop [(dA a b c es), (.int .i64 up)] ∧ (CPl [(nA (rowI es up)), (.str s)] ∧ (ifB (fndN (sI (rowI es up) 7) s) (Φ (.tup [(dA a b c es), (.int .i64 0), (.int .i64 3)]) .none) (CDk [(dA a b c es)] ∧ (ifB (leI b (es.length : Int)) (Φ (.tup [(dA a b c es), (.int .i64 0), (.int .i64 8)]) .none) (ifB (!leI (IntKind.i64.wrap ((usedR es : Int) + (bl.length : Int))) a) (Φ (.tup [(dA a b c es), (.int .i64 0), (.int .i64 8)]) .none) (CPut [(dA a b c es), (.agg [(.int .i64 c), (.int .i64 d1), (.int .i64 d2), (.int .i64 1), (.int .i64 d4), (.sl 2 false bl), (.str t), (.sl 2 false ([] : List (List AV)))])] ∧ (CWi [(nA (rowI es up)), (.str s), (.int .i64 c)] ∧ (CPut [(dA a b c (putR es [(.int .i64 c), (.int .i64 d1), (.int .i64 d2), (.int .i64 1), (.int .i64 d4), (.sl 2 false bl), (.str t), (.sl 2 false ([] : List (List AV)))])), (nmA (rowI es up) (withN (sI (rowI es up) 7) s c))] ∧ (Φ (.tup [(dA a b (IntKind.i64.wrap (c + 1)) (putR (putR es [(.int .i64 c), (.int .i64 d1), (.int .i64 d2), (.int .i64 1), (.int .i64 d4), (.sl 2 false bl), (.str t), (.sl 2 false ([] : List (List AV)))]) (rowNm (rowI es up) (withN (sI (rowI es up) 7) s c)))), (.int .i64 c), (.int .i64 0)]) .none)))))))))) := by kernel_rfl
theorem isFun_11 : IsFun Try.prog 11 Try.f11 := ⟨Try.func11, by kernel_rfl, by kernel_rfl⟩
def GE11 : GE := fun f => match f with
  | 29 => some (.fn CDrop gGot)
  | 30 => some (.fn CPl gNm)
  | 32 => some (.fn CPut gPut)
  | 33 => some (.fn CWi gWi)
  | _ => none
theorem GE11_sound : Sound Try.prog GE11 := by
  intro f sp h
  unfold GE11 at h
  split at h
  · cases h; exact fn29
  · cases h; exact fn30
  · cases h; exact fn32
  · cases h; exact fn33
  · cases h
theorem v11 (a b c : Int) (es : List (List AV)) (up : Int) (s : ByteArray) (k : Int) (Φ : AV → Ent → Prop) : wFunC te GE11 Try.f11 [(dA a b c es), (.int .i64 up), (.str s), (.int .i64 k)] [] (datFin Φ) = (CDrop [(dA a b c es), (.int .i64 up)] ∧ (CDrop [(dA a b c es), (.int .i64 k)] ∧ (CPl [(nA (rowI es up)), (.str s)] ∧ (ifB (fndN (sI (rowI es up) 7) s) (Φ (.tup [(dA a b c es), (.int .i64 3)]) .none) (CPut [(dA a b c es), (lkA (rowI es k) (IntKind.i64.wrap ((nI (rowI es k) 3) + 1)))] ∧ (CWi [(nA (rowI es up)), (.str s), (.int .i64 k)] ∧ (CPut [(dA a b c (putR es (rowLk (rowI es k) (IntKind.i64.wrap ((nI (rowI es k) 3) + 1))))), (nmA (rowI es up) (withN (sI (rowI es up) 7) s k))] ∧ (Φ (.tup [(dA a b c (putR (putR es (rowLk (rowI es k) (IntKind.i64.wrap ((nI (rowI es k) 3) + 1)))) (rowNm (rowI es up) (withN (sI (rowI es up) 7) s k)))), (.int .i64 0)]) .none)))))))) := by kernel_rfl
/-- A new node of a number. -/
def newN (k : Int) (r : List AV) : List AV := [.int .i64 k, .int .i64 (nI r 1), .int .i64 (nI r 2), .int .i64 1, .int .i64 (nI r 4), .sl 2 false (sI r 5), .str (bI r), .sl 2 false []]
theorem isNode_new (k : Int) {r : List AV} (h : IsNode r) : IsNode (newN k r) := ⟨_, _, _, _, _, _, _, _, rfl, node_blocks h, ⟨by simp, by simp, by simp⟩⟩
def nmOf (es : List (List AV)) (k : Int) : List (List AV) := sI (rowI es k) 7
/-- tie.Make: the next number, the nodes, the new one's number, an error. -/
def tieMake (a b c : Int) (es : List (List AV)) (up : Int) (s : ByteArray) (r : List AV) : Int × (List (List AV) × (Int × Int)) :=
  if fndN (nmOf es up) s = true then (c, es, 0, 3)
  else if b ≤ (es.length : Int) ∨ a < (usedR es : Int) + ((sI r 5).length : Int) then (c, es, 0, 8)
  else (c + 1, putR (putR es (newN c r)) (rowNm (rowI es up) (withN (nmOf es up) s c)), c, 0)
def CMake : List AV → Prop
  | [.agg [.int .i64 _, .int .i64 _, .int .i64 c, .sl 8 false es], .int .i64 up, .str _, .agg r] => IsNodes es ∧ IsNode r ∧ es.length + 2 ≤ 1000000 ∧ (nmOf es up).length < 1000000 ∧ 0 ≤ c ∧ c < 4611686018427387904
  | _ => False
def gMake : List AV → AV
  | [.agg [.int _ a, .int _ b, .int _ c, .sl _ _ es], .int _ up, .str s, .agg r] => .tup [.agg [.int .i64 a, .int .i64 b, .int .i64 (tieMake a b c es up s r).1, .sl 8 false (tieMake a b c es up s r).2.1], .int .i64 (tieMake a b c es up s r).2.2.1, .int .i64 (tieMake a b c es up s r).2.2.2]
  | _ => .junk
theorem fn8 : SpecSound Try.prog 8 (.fn CMake gMake) := dat_soundC te_ok GE8_sound mixed isFun_8 (by
  rintro xs Φ ⟨hC, h⟩
  unfold CMake at hC
  split at hC
  · rename_i a b c es up s r
    obtain ⟨hn, hr, hl, hnl, hc0, hc1⟩ := hC
    have hr' := hr
    obtain ⟨d0, d1, d2, d3, d4, bl, t, nm, rfl, hbl, hnm⟩ := hr'
    have h' : Φ (.tup [dA a b (tieMake a b c es up s [.int .i64 d0, .int .i64 d1, .int .i64 d2, .int .i64 d3, .int .i64 d4, .sl 2 false bl, .str t, .sl 2 false nm]).1 (tieMake a b c es up s [.int .i64 d0, .int .i64 d1, .int .i64 d2, .int .i64 d3, .int .i64 d4, .sl 2 false bl, .str t, .sl 2 false nm]).2.1, .int .i64 (tieMake a b c es up s [.int .i64 d0, .int .i64 d1, .int .i64 d2, .int .i64 d3, .int .i64 d4, .sl 2 false bl, .str t, .sl 2 false nm]).2.2.1, .int .i64 (tieMake a b c es up s [.int .i64 d0, .int .i64 d1, .int .i64 d2, .int .i64 d3, .int .i64 d4, .sl 2 false bl, .str t, .sl 2 false nm]).2.2.2]) .none := h
    have hrow := isNode_row hn up
    have hnms := node_names hrow
    have hu : usedR es ≤ 1000000000000000000 := by have := used_bound hn es.length; rwa [List.take_length] at this
    have hb := hbl.2.2
    have hw : IntKind.i64.wrap ((usedR es : Int) + (bl.length : Int)) = (usedR es : Int) + (bl.length : Int) := by rw [IntWalk.i64_in _ (by omega)]
    have hw2 : IntKind.i64.wrap (c + 1) = c + 1 := by rw [IntWalk.i64_in _ (by omega)]
    refine Eq.mpr (v8 ..) ?_
    rw [hw, hw2]
    unfold tieMake at h'
    refine ⟨hn, hnms, ifB_both (fun c1 => ?_) (fun c1 => ⟨hn, ifB_both (fun c2 => ?_) (fun c2 => ifB_both (fun c3 => ?_) (fun c3 => ?_))⟩)⟩
    · rw [if_pos (show fndN (nmOf es up) s = true from c1)] at h'; exact h'
    · rw [if_neg (show ¬ fndN (nmOf es up) s = true from by unfold nmOf; rw [c1]; decide), if_pos (.inl (le_of_leI c2))] at h'; exact h'
    · rw [if_neg (show ¬ fndN (nmOf es up) s = true from by unfold nmOf; rw [c1]; decide), if_pos (.inr (lt_of_nleI c3))] at h'; exact h'
    · rw [if_neg (show ¬ fndN (nmOf es up) s = true from by unfold nmOf; rw [c1]; decide), if_neg (fun hh => hh.elim (fun h1 => by have := lt_of_leI c2; omega) (fun h1 => absurd (show a < (usedR es : Int) + (bl.length : Int) from h1) (by have := le_of_nleI c3; omega)))] at h'
      have hnew := isNode_new c hr
      have hput := putR_ok hn hnew (by omega)
      have hlen := putR_len es (newN c [.int .i64 d0, .int .i64 d1, .int .i64 d2, .int .i64 d3, .int .i64 d4, .sl 2 false bl, .str t, .sl 2 false nm])
      exact ⟨⟨hn, hnew, by omega⟩, ⟨node_blocks hrow, hnms, hnl⟩, ⟨hput, isNode_nm hrow (withN_ok hnms s c (by unfold nmOf at hnl; omega)), Nat.lt_of_le_of_lt hlen (by omega)⟩, h'⟩
  · cases hC)
def tieLink (es : List (List AV)) (up : Int) (s : ByteArray) (k : Int) : List (List AV) × Int :=
  if fndN (nmOf es up) s = true then (es, 3)
  else (putR (putR es (rowLk (rowI es k) (IntKind.i64.wrap (nI (rowI es k) 3 + 1)))) (rowNm (rowI es up) (withN (nmOf es up) s k)), 0)
def CTie : List AV → Prop
  | [.agg [.int .i64 _, .int .i64 _, .int .i64 _, .sl 8 false es], .int .i64 up, .str _, .int .i64 _] => IsNodes es ∧ es.length + 2 ≤ 1000000 ∧ (nmOf es up).length < 1000000
  | _ => False
def gLink : List AV → AV
  | [.agg [a, b, c, .sl _ _ es], .int _ up, .str s, .int _ k] => .tup [.agg [a, b, c, .sl 8 false (tieLink es up s k).1], .int .i64 (tieLink es up s k).2]
  | _ => .junk
theorem fn11 : SpecSound Try.prog 11 (.fn CTie gLink) := dat_soundC te_ok GE11_sound mixed isFun_11 (by
  rintro xs Φ ⟨hC, h⟩
  unfold CTie at hC
  split at hC
  · rename_i a b c es up s k
    obtain ⟨hn, hl, hnl⟩ := hC
    have h' : Φ (.tup [dA a b c (tieLink es up s k).1, .int .i64 (tieLink es up s k).2]) .none := h
    have hrow := isNode_row hn up
    have hnms := node_names hrow
    refine Eq.mpr (v11 ..) ?_
    unfold tieLink at h'
    refine ⟨hn, hn, hnms, ifB_both (fun c1 => ?_) (fun c1 => ?_)⟩
    · rw [if_pos (show fndN (nmOf es up) s = true from c1)] at h'; exact h'
    · rw [if_neg (show ¬ fndN (nmOf es up) s = true from by unfold nmOf; rw [c1]; decide)] at h'
      have hlk := isNode_lk (isNode_row hn k) (IntKind.i64.wrap (nI (rowI es k) 3 + 1))
      have hput := putR_ok hn hlk (by omega)
      have hlen := putR_len es (rowLk (rowI es k) (IntKind.i64.wrap (nI (rowI es k) 3 + 1)))
      exact ⟨⟨hn, hlk, by omega⟩, ⟨node_blocks hrow, hnms, hnl⟩, ⟨hput, isNode_nm hrow (withN_ok hnms s k (by unfold nmOf at hnl; omega)), by omega⟩, h'⟩
  · cases hC)
/-- tie.Drop: the nodes, an error. -/
def tieDrop (es : List (List AV)) (up : Int) (s : ByteArray) : List (List AV) × Int :=
  if fndN (nmOf es up) s = true then
    (if IntKind.i64.wrap (nI (rowI es (inoN (nmOf es up) s)) 3 - 1) < 1 ∨ nI (rowI es (inoN (nmOf es up) s)) 1 = 2 then (dropR (putR es (rowNm (rowI es up) (withoutN (nmOf es up) s))) (inoN (nmOf es up) s), 0)
    else (putR (putR es (rowNm (rowI es up) (withoutN (nmOf es up) s))) (rowLk (rowI es (inoN (nmOf es up) s)) (IntKind.i64.wrap (nI (rowI es (inoN (nmOf es up) s)) 3 - 1))), 0))
  else (es, 2)
def CTieD : List AV → Prop
  | [.agg [.int .i64 _, .int .i64 _, .int .i64 _, .sl 8 false es], .int .i64 _, .str _] => IsNodes es ∧ es.length + 2 ≤ 1000000
  | _ => False
def gTieD : List AV → AV
  | [.agg [a, b, c, .sl _ _ es], .int _ up, .str s] => .tup [.agg [a, b, c, .sl 8 false (tieDrop es up s).1], .int .i64 (tieDrop es up s).2]
  | _ => .junk
/-- tie.Move: the nodes, an error. -/
def tieMove (es : List (List AV)) (up : Int) (s : ByteArray) (to : Int) (s2 : ByteArray) : List (List AV) × Int :=
  if fndN (nmOf es up) s = true then
    (if fndN (nmOf es to) s2 = true then (es, 3)
    else (putR (putR es (rowNm (rowI es up) (withoutN (nmOf es up) s))) (rowNm (rowI (putR es (rowNm (rowI es up) (withoutN (nmOf es up) s))) to) (withN (nmOf (putR es (rowNm (rowI es up) (withoutN (nmOf es up) s))) to) s2 (inoN (nmOf es up) s))), 0))
  else (es, 2)
def CTieM : List AV → Prop
  | [.agg [.int .i64 _, .int .i64 _, .int .i64 _, .sl 8 false es], .int .i64 up, .str s, .int .i64 to, .str _] => IsNodes es ∧ es.length + 2 ≤ 1000000 ∧ (nmOf (putR es (rowNm (rowI es up) (withoutN (nmOf es up) s))) to).length < 1000000
  | _ => False
def gTieM : List AV → AV
  | [.agg [a, b, c, .sl _ _ es], .int _ up, .str s, .int _ to, .str s2] => .tup [.agg [a, b, c, .sl 8 false (tieMove es up s to s2).1], .int .i64 (tieMove es up s to s2).2]
  | _ => .junk
end Go.Proofs.Ytdojencjbmahpaa
end
/-
  The reference's files and disks, what is read of them: the contracts of find, byteAt, Read, Same; Used, Nodes, Same.
-/
section
namespace Go.Proofs.Ytdojencjbmahpaa
open Go.Rf
set_option maxRecDepth 100000
set_option linter.unusedVariables false
set_option linter.unusedSimpArgs false
theorem ifB_beq' {α : Type} [BEq α] [ReflBEq α] {a : α} {A B : Prop} (h : A) : ifB (a == a) A B := by rw [beq_self_eq_true]; exact h
theorem rise_blocks {es : List (List AV)} (h : IsBlocks es) : es.Pairwise (fun e f => inI e < inI f) := h.2.1
/-- By what stands at a place. -/
theorem fnd_at {es : List (List AV)} (h : es.Pairwise (fun e f => inI e < inI f)) {i : Nat} (hi : i < es.length) : fndI es (inI es[i]) = true ∧ posKI es (inI es[i]) = i := by
  generalize hk : inI es[i] = k
  have hp := List.pairwise_iff_getElem.1 h
  cases spI h k with
  | yes A b B cat key lo hi' fnd pos =>
    refine ⟨fnd, ?_⟩
    rw [pos]
    have hA : A.length < es.length := by rw [cat]; simp
    have hget : es[A.length] = b := by simp [cat]
    rcases Nat.lt_trichotomy A.length i with hlt | heq | hgt
    · have := hp A.length i hA hi hlt
      rw [hget, key, hk] at this
      exact absurd this (Int.lt_irrefl _)
    · exact heq
    · have := hp i A.length hi hA hgt
      rw [hget, key, hk] at this
      exact absurd this (Int.lt_irrefl _)
  | no A B cat lo hi' fnd pos =>
    exfalso
    have hm : es[i] ∈ A ++ B := by rw [← cat]; exact List.getElem_mem hi
    rcases List.mem_append.1 hm with hm | hm
    · have := lo _ hm; omega
    · have := hi' _ hm; omega
theorem fnd_none {es : List (List AV)} (h : es.Pairwise (fun e f => inI e < inI f)) {k : Int} (hn : ∀ e ∈ es, inI e ≠ k) : fndI es k = false := by
  cases spI h k with
  | yes A b B cat key lo hi' fnd pos => exact absurd key (hn b (by rw [cat]; simp))
  | no A B cat lo hi' fnd pos => exact fnd
def ixB (es : List (List AV)) (k : Int) : Int := if fndI es k = true then posI es k else -1
def CFd : List AV → Prop
  | [.agg [.int .i64 _, .sl 2 false es], .int .i64 _] => IsBlocks es
  | _ => False
def gFd : List AV → AV
  | [.agg [_, .sl _ _ es], .int _ k] => .int .i64 (ixB es k)
  | _ => .junk
theorem isFun_76 : IsFun Try.prog 76 Try.f76 := ⟨Try.func76, by kernel_rfl, by kernel_rfl⟩
theorem v76 (z : Int) (bl : List (List AV)) (k : Int) (Φ : AV → Ent → Prop) : wFunC te nGE' Try.f76 [(.agg [(.int .i64 z), (.sl 2 false bl)]), (.int .i64 k)] [] (datFin Φ) = (wLoopC 0 (wCodeC te nGE' 0 (bodyAt Try.f76 [false, true, false, true, true])) ⟨((.agg [(.int .i64 z), (.sl 2 false bl)]) :: ((.int .i64 k) :: ((.ptr 0 0) :: (jk 1 ((.int .i64 0) :: ((.int .i64 0) :: (jk 16 []))))))), [(.var [(.int .i64 z), (.sl 2 false bl)])]⟩ (blkQ 0 (seqQ (wCodeC te nGE' 0 (bodyAt Try.f76 [false, false])) (endQ te Try.f76 (datFin Φ))))) := by kernel_rfl
def t76 (z : Int) (bl : List (List AV)) (k i : Int) : St := ⟨(jk 1 ((.int .i64 k) :: ((.ptr 0 0) :: (jk 2 ((.int .i64 i) :: (jk 16 [])))))), [(.var [(.int .i64 z), (.sl 2 false bl)])]⟩
def k76 : List Bool := [false, true, true, false, false, true, false, false, false, false, false, false, false, false, false, false, false, false, false, false, false, false]
theorem b76 (z : Int) (bl : List (List AV)) (k i : Int) (K : KontX) (Φ : AV → Ent → Prop) : wCodeC te nGE' 0 (bodyAt Try.f76 [false, true, false, true, true]) (t76 z bl k i) (cutK ((endQ te Try.f76 (datFin Φ)) .ret) k76 1 K) = (ifB (!leI (bl.length : Int) i) ((0 ≤ i ∧ i < (bl.length : Int)) ∧ (∃ n17, cellAt bl i.toNat 0 = (.int .i64 n17) ∧ (ifB (n17 == k) (Φ (.int .i64 i) .none) (K .normal (t76 z bl k (IntKind.i64.wrap (i + 1))))))) (K (.exit 0) (t76 z bl k i))) := by kernel_rfl
theorem e76 (z : Int) (bl : List (List AV)) (k i : Int) (Φ : AV → Ent → Prop) : wCodeC te nGE' 0 (bodyAt Try.f76 [false, false]) (t76 z bl k i) (endQ te Try.f76 (datFin Φ)) = (Φ (.int .i64 (-1)) .none) := by kernel_rfl
theorem s76 {z : Int} {bl : List (List AV)} {k : Int} (hb : IsBlocks bl) (Φ : AV → Ent → Prop) (h : Φ (.int .i64 (ixB bl k)) .none) : wFunC te nGE' Try.f76 [.agg [.int .i64 z, .sl 2 false bl], .int .i64 k] [] (datFin Φ) := by
  have hl := hb.2.2
  rw [v76]
  refine loopC k76 1 (fun n st => ∃ i : Nat, i + n = bl.length ∧ st = t76 z bl k i ∧ ∀ e ∈ bl.take i, inI e ≠ k) (by omega) ⟨bl.length, _, ⟨0, by omega, rfl, by simp⟩, reT_to k76 1 rfl (by omega) rfl⟩ ?_
  rintro n st ⟨i, hi, rfl, hinv⟩
  rw [b76]
  refine ifB_both (fun c1 => ?_) (fun c1 => ?_)
  · have c1' := lt_of_nleI c1
    have hlt : i < bl.length := by omega
    obtain ⟨a, d, he, q0, q1, _, _, _, _, hin⟩ := block_at hb hlt
    have hw : IntKind.i64.wrap ((i : Int) + 1) = ((i + 1 : Nat) : Int) := by rw [IntWalk.i64_in _ (by omega)]; omega
    refine ⟨by omega, a, by rw [Int.toNat_natCast]; exact q0, ifB_both (fun c2 => ?_) (fun c2 => ?_)⟩
    · have hak := eq_of_beq c2
      obtain ⟨f1, f2⟩ := fnd_at (rise_blocks hb) hlt
      rw [hin, hak] at f1 f2
      unfold ixB at h
      rw [if_pos f1, show posI bl k = (posKI bl k : Int) from rfl, f2] at h
      exact h
    · have hak := ne_of_beq_false c2
      rw [hw]
      refine rc_next (n - 1) (by omega) ⟨i + 1, by omega, rfl, fun e he' => ?_⟩
      rw [List.take_add_one, List.getElem?_eq_getElem hlt] at he'
      rcases List.mem_append.1 he' with he' | he'
      · exact hinv e he'
      · simp at he'
        subst he'
        rw [hin]; exact hak
  · have c1' := le_of_nleI c1
    refine rc_exit ?_
    rw [e76]
    rw [List.take_of_length_le (by omega)] at hinv
    unfold ixB at h
    rw [if_neg (by rw [fnd_none (rise_blocks hb) hinv]; decide)] at h
    exact h
theorem fn76 : SpecSound Try.prog 76 (.fn CFd gFd) := dat_soundC te_ok nGE'_sound mixed isFun_76 (by
  rintro xs Φ ⟨hC, h⟩
  unfold CFd at hC
  split at hC
  · exact s76 hC Φ h
  · cases hC)
/-! byteAt -/
def byN (bl : List (List AV)) (i : Int) : Int := inI (byteR bl i.toNat)
def CBA : List AV → Prop
  | [.agg [.int .i64 _, .sl 2 false es], .int .i64 i] => IsBlocks es ∧ 0 ≤ i ∧ i ≤ 1000000
  | _ => False
def gBA : List AV → AV
  | [.agg [_, .sl _ _ es], .int _ i] => .int .u8 (byN es i)
  | _ => .junk
theorem isFun_78 : IsFun Try.prog 78 Try.f78 := ⟨Try.func78, by kernel_rfl, by kernel_rfl⟩
def GE78 : GE := fun f => match f with
  | 76 => some (.fn CFd gFd)
  | _ => none
theorem GE78_sound : Sound Try.prog GE78 := by
  intro f sp h
  unfold GE78 at h
  split at h
  · cases h; exact fn76
  · cases h
theorem v78 (z : Int) (bl : List (List AV)) (i : Int) (Φ : AV → Ent → Prop) : wFunC te GE78 Try.f78 [(.agg [(.int .i64 z), (.sl 2 false bl)]), (.int .i64 i)] [] (datFin Φ) = ((16 ≠ (0 : Int)) ∧ (CFd [(.agg [(.int .i64 z), (.sl 2 false bl)]), (.int .i64 (IntKind.i64.wrap (Int.tdiv i 16)))] ∧ (ifB (!leI 0 (ixB bl (IntKind.i64.wrap (Int.tdiv i 16)))) (Φ (.int .u8 0) .none) ((0 ≤ (ixB bl (IntKind.i64.wrap (Int.tdiv i 16))) ∧ (ixB bl (IntKind.i64.wrap (Int.tdiv i 16))) < (bl.length : Int)) ∧ (∃ r18, cellAt bl (ixB bl (IntKind.i64.wrap (Int.tdiv i 16))).toNat 1 = (.sl 1 false r18) ∧ ((16 ≠ (0 : Int)) ∧ ((0 ≤ (Int.tmod i 16) ∧ (Int.tmod i 16) < (r18.length : Int)) ∧ (∃ n19, cellAt r18 (Int.tmod i 16).toNat 0 = (.int .u8 n19) ∧ (Φ (.int .u8 n19) .none))))))))) := by kernel_rfl
theorem byte_row {e : List AV} (h : isByte e) : e = [.int .u8 (inI e)] := by
  unfold isByte isByteB at h
  split at h
  · rfl
  · cases h
theorem byteR_row {bl : List (List AV)} (hb : IsBlocks bl) (i : Nat) : isByte (byteR bl i) := by
  obtain ⟨h1, h2⟩ := blkD_len hb ((i / 16 : Nat) : Int)
  unfold byteR
  rw [List.getD_eq_getElem?_getD, List.getElem?_eq_getElem (by rw [h1]; omega)]
  exact h2 _ (List.getElem_mem _)
theorem fn78 : SpecSound Try.prog 78 (.fn CBA gBA) := dat_soundC te_ok GE78_sound mixed isFun_78 (by
  rintro xs Φ ⟨hC, h⟩
  unfold CBA at hC
  split at hC
  · rename_i z bl i
    obtain ⟨hb, h0, h1⟩ := hC
    obtain ⟨n, rfl⟩ : ∃ n : Nat, i = n := ⟨i.toNat, by omega⟩
    have h' : Φ (.int .u8 (inI (byteR bl n))) .none := h
    have hq : IntKind.i64.wrap (Int.tdiv (n : Int) 16) = ((n / 16 : Nat) : Int) := by
      have : Int.tdiv (n : Int) 16 = ((n / 16 : Nat) : Int) := rfl
      rw [this, IntWalk.i64_in _ (by omega)]
    have hm : Int.tmod (n : Int) 16 = ((n % 16 : Nat) : Int) := rfl
    refine Eq.mpr (v78 ..) ?_
    rw [hq, hm]
    refine ⟨by decide, hb, ifB_both (fun c1 => ?_) (fun c1 => ?_)⟩
    · have c1' := lt_of_nleI c1
      have hf : fndI bl ((n / 16 : Nat) : Int) = false := by
        cases hh : fndI bl ((n / 16 : Nat) : Int) with
        | false => rfl
        | true =>
          unfold ixB at c1'
          rw [if_pos hh] at c1'
          have := posI_nn bl ((n / 16 : Nat) : Int)
          omega
      have : byteR bl n = [.int .u8 0] := by
        unfold byteR blkD
        rw [if_neg (by rw [hf]; decide)]
        unfold zB
        rw [List.getD_eq_getElem?_getD]
        rcases Nat.lt_or_ge (n % 16) 16 with hh | hh
        · rw [List.getElem?_replicate, if_pos hh]; rfl
        · omega
      rw [this] at h'
      exact h'
    · have c1' := le_of_nleI c1
      have hf : fndI bl ((n / 16 : Nat) : Int) = true := by
        cases hh : fndI bl ((n / 16 : Nat) : Int) with
        | true => rfl
        | false =>
          unfold ixB at c1'
          rw [if_neg (by rw [hh]; decide)] at c1'
          omega
      have hix : ixB bl ((n / 16 : Nat) : Int) = (posKI bl ((n / 16 : Nat) : Int) : Int) := by unfold ixB; rw [if_pos hf]; rfl
      have hlt := fndI_lt hf
      obtain ⟨a, d, he, q0, q1, hd, hy, _⟩ := block_at hb hlt
      have hm16 : n % 16 < d.length := by omega
      have hbyte := hy d[n % 16] (List.getElem_mem hm16)
      have hrow := byte_row hbyte
      have hbr : byteR bl n = d[n % 16] := by
        unfold byteR blkD
        rw [if_pos hf, List.getD_eq_getElem?_getD (l := bl), List.getElem?_eq_getElem hlt]
        show (sI bl[posKI bl ((n / 16 : Nat) : Int)] 1).getD (n % 16) _ = _
        rw [he]
        show d.getD (n % 16) _ = _
        rw [List.getD_eq_getElem?_getD, List.getElem?_eq_getElem hm16]
        rfl
      rw [hix]
      refine ⟨by omega, d, by rw [Int.toNat_natCast]; exact q1, by decide, by omega, inI (byteR bl n), ?_, h'⟩
      rw [Int.toNat_natCast, hbr]
      have : cellAt d (n % 16) 0 = d[n % 16].getD 0 .junk := by simp [cellAt, List.getD_eq_getElem?_getD, List.getElem?_eq_getElem hm16]
      rw [this, hrow]
      rfl
  · cases hC)
theorem isFun_53 : IsFun Try.prog 53 Try.f53 := ⟨Try.func53, by kernel_rfl, by kernel_rfl⟩
def GE53 : GE := fun f => match f with
  | 78 => some (.fn CBA gBA)
  | _ => none
theorem GE53_sound : Sound Try.prog GE53 := by
  intro f sp h
  unfold GE53 at h
  split at h
  · cases h; exact fn78
  · cases h
theorem v53 (z : Int) (bl : List (List AV)) (p n : Int) (Φ : AV → Ent → Prop) : wFunC te GE53 Try.f53 [(.agg [(.int .i64 z), (.sl 2 false bl)]), (.int .i64 p), (.int .i64 n)] [] (datFin Φ) = (wLoopC 0 (wCodeC te GE53 0 (bodyAt Try.f53 [false, false, true, false, true, true])) ⟨((.agg [(.int .i64 z), (.sl 2 false bl)]) :: ((.int .i64 p) :: ((.int .i64 n) :: ((.ptr 0 0) :: (jk 2 ((.sl 0 true ([] : List (List AV))) :: ((.sl 0 true ([] : List (List AV))) :: ((.int .i64 p) :: ((.int .i64 p) :: (jk 20 [])))))))))), [(.var [(.int .i64 z), (.sl 2 false bl)])]⟩ (blkQ 0 (seqQ (wCodeC te GE53 0 (bodyAt Try.f53 [false, false, false])) (endQ te Try.f53 (datFin Φ))))) := by kernel_rfl
def t53 (z : Int) (bl : List (List AV)) (p n i : Int) (v m : Nat) (es : List (List AV)) : St := ⟨(jk 1 ((.int .i64 p) :: ((.int .i64 n) :: ((.ptr 0 0) :: (jk 3 ((.own 1 v m) :: ((.int .i64 i) :: (jk 21 [])))))))), [(.var [(.int .i64 z), (.sl 2 false bl)]), (.arr true v 1 none es)]⟩
def k53 : List Bool := [false, true, true, true, false, false, false, true, true, false, false, false, false, false, false, false, false, false, false, false, false, false, false, false, false, false, false, false, false, false]
theorem b53 (z : Int) (bl : List (List AV)) (p n i : Int) (v m : Nat) (es : List (List AV)) (K : KontX) (Φ : AV → Ent → Prop) : wCodeC te GE53 0 (bodyAt Try.f53 [false, false, true, false, true, true]) (t53 z bl p n i v m es) (cutK ((endQ te Try.f53 (datFin Φ)) .ret) k53 2 K) = (ifB (!leI (IntKind.i64.wrap (p + n)) i) (ifB (!leI z i) (CBA [(.agg [(.int .i64 z), (.sl 2 false bl)]), (.int .i64 i)] ∧ ((fits 1 1 [[(.int .u8 (byN bl i))]] = true ∧ v = v ∧ m = es.length ∧ room (es.length + 1) 1) ∧ (K .normal (t53 z bl p n (IntKind.i64.wrap (i + 1)) (v + 1) (es.length + 1) (es ++ [[(.int .u8 (byN bl i))]]))))) (K (.exit 0) (t53 z bl p n i v m es))) (K (.exit 0) (t53 z bl p n i v m es))) := by kernel_rfl
theorem e53 (z : Int) (bl : List (List AV)) (p n i : Int) (v m : Nat) (es : List (List AV)) (Φ : AV → Ent → Prop) : wCodeC te GE53 0 (bodyAt Try.f53 [false, false, false]) (t53 z bl p n i v m es) (endQ te Try.f53 (datFin Φ)) = ((v = v ∧ m = es.length) ∧ (Φ (.sl 1 false es) .none)) := by kernel_rfl
def CRd' : List AV → Prop
  | [.agg [.int .i64 _, .sl 2 false bl], .int .i64 p, .int .i64 n] => IsBlocks bl ∧ 0 ≤ p ∧ p ≤ 100000 ∧ 0 ≤ n ∧ n ≤ 100000
  | _ => False
theorem z53 (z : Int) (bl : List (List AV)) (p n i : Int) : ReT 0 ⟨(t53 z bl p n i 0 0 []).T.set 7 (.sl 0 true []), [.var [.int .i64 z, .sl 2 false bl]]⟩ (t53 z bl p n i 1 0 []) :=
  reT_adopt (T := (t53 z bl p n i 0 0 []).T.set 7 (.sl 0 true [])) (H := [.var [.int .i64 z, .sl 2 false bl]]) 7 0 1 rfl (by omega)
theorem s53 {z : Int} {bl : List (List AV)} {p n : Int} (hb : IsBlocks bl) (hp0 : 0 ≤ p) (hp1 : p ≤ 100000) (hn0 : 0 ≤ n) (hn1 : n ≤ 100000) (Φ : AV → Ent → Prop)
    (h : Φ (.sl 1 false (readR bl z p n)) .none) : wFunC te GE53 Try.f53 [.agg [.int .i64 z, .sl 2 false bl], .int .i64 p, .int .i64 n] [] (datFin Φ) := by
  rw [v53]
  obtain ⟨q, rfl⟩ : ∃ q : Nat, p = q := ⟨p.toNat, by omega⟩
  have hpn : IntKind.i64.wrap ((q : Int) + n) = (q : Int) + n := by rw [IntWalk.i64_in _ (by omega)]
  obtain ⟨m, hm⟩ : ∃ m : Nat, m = ((if z < (q : Int) + n then z else (q : Int) + n) - q).toNat := ⟨_, rfl⟩
  have hrd : readR bl z q n = (List.range' q m).map (byteR bl) := by rw [hm]; rfl
  have hml : m ≤ 100000 := by rw [hm]; split <;> omega
  have hcond : ∀ k : Nat, k < m ↔ ((q + k : Nat) : Int) < (q : Int) + n ∧ ((q + k : Nat) : Int) < z := by
    intro k; rw [hm]; split <;> omega
  rw [hrd] at h
  refine loopC k53 2 (fun r st => ∃ k v : Nat, k + r = m ∧ st = t53 z bl q n ((q + k : Nat) : Int) v k ((List.range' q k).map (byteR bl))) (by omega)
    ⟨m, _, ⟨0, 1, by omega, rfl⟩, (reT_to k53 1 rfl (by omega) rfl).trans (z53 z bl q n q)⟩ ?_
  rintro r st ⟨k, v, hk, rfl⟩
  rw [b53, hpn]
  have out : ¬ k < m → roundC 0 (fun r st => ∃ k v : Nat, k + r = m ∧ st = t53 z bl q n ((q + k : Nat) : Int) v k ((List.range' q k).map (byteR bl))) r (blkQ 0 (seqQ (wCodeC te GE53 0 (bodyAt Try.f53 [false, false, false])) (endQ te Try.f53 (datFin Φ)))) (.exit 0) (t53 z bl q n ((q + k : Nat) : Int) v k ((List.range' q k).map (byteR bl))) := fun hkm => by
    have : k = m := by omega
    refine rc_exit ?_
    rw [e53, this]
    exact ⟨⟨rfl, by simp⟩, h⟩
  refine ifB_both (fun c1 => ifB_both (fun c2 => ?_) (fun c2 => ?_)) (fun c1 => ?_)
  · have c1' := lt_of_nleI c1
    have c2' := lt_of_nleI c2
    have hkm : k < m := (hcond k).2 ⟨c1', c2'⟩
    have hw : IntKind.i64.wrap (((q + k : Nat) : Int) + 1) = ((q + (k + 1) : Nat) : Int) := by rw [IntWalk.i64_in _ (by omega)]; omega
    have hlen : ((List.range' q k).map (byteR bl)).length = k := by simp
    have hrow : [.int .u8 (byN bl ((q + k : Nat) : Int))] = byteR bl (q + k) := by
      show [AV.int .u8 (inI (byteR bl (((q + k : Nat) : Int)).toNat))] = _
      rw [Int.toNat_natCast]
      exact (byte_row (byteR_row hb (q + k))).symm
    have hcat : (List.range' q k).map (byteR bl) ++ [byteR bl (q + k)] = (List.range' q (k + 1)).map (byteR bl) := by
      rw [List.range'_concat, List.map_append]
      simp
    rw [hw]
    refine ⟨⟨hb, by omega, by omega⟩, ⟨rfl, rfl, hlen.symm, by unfold room; omega⟩, rc_next (r - 1) (by omega) ⟨k + 1, v + 1, by omega, ?_⟩⟩
    rw [hlen, hrow, hcat]
  · have c2' := le_of_nleI c2
    exact out (fun hkm => by have := (hcond k).1 hkm; omega)
  · have c1' := le_of_nleI c1
    exact out (fun hkm => by have := (hcond k).1 hkm; omega)
theorem fn53 : SpecSound Try.prog 53 (.fn CRd' gRd) := dat_soundC te_ok GE53_sound mixed isFun_53 (by
  rintro xs Φ ⟨hC, h⟩
  unfold CRd' at hC
  split at hC
  · obtain ⟨h1, h2, h3, h4, h5⟩ := hC
    exact s53 h1 h2 h3 h4 h5 Φ h
  · cases hC)
/-! ref2.Same, of a file and itself -/
def fA (z : Int) (bl : List (List AV)) : AV := .agg [.int .i64 z, .sl 2 false bl]
def CSm2 : List AV → Prop := fun xs => ∃ z bl, xs = [fA z bl, fA z bl] ∧ IsBlocks bl ∧ 0 ≤ z ∧ z ≤ 100000
theorem isFun_63 : IsFun Try.prog 63 Try.f63 := ⟨Try.func63, by kernel_rfl, by kernel_rfl⟩
def GE63 : GE := fun f => match f with
  | 53 => some (.fn CRd' gRd)
  | _ => none
theorem GE63_sound : Sound Try.prog GE63 := by
  intro f sp h
  unfold GE63 at h
  split at h
  · cases h; exact fn53
  · cases h
theorem v63 (z : Int) (bl : List (List AV)) (y : Int) (cl : List (List AV)) (Φ : AV → Ent → Prop) : wFunC te GE63 Try.f63 [(fA z bl), (fA y cl)] [] (datFin Φ) = (ifB (z == y) (CRd' [(fA z bl), (.int .i64 0), (.int .i64 z)] ∧ ((∀ e ∈ (readR bl z 0 z), isByte e) ∧ (CRd' [(fA y cl), (.int .i64 0), (.int .i64 y)] ∧ ((∀ e ∈ (readR cl y 0 y), isByte e) ∧ (Φ (.bool ((strOf (readR bl z 0 z)).toList == (strOf (readR cl y 0 y)).toList)) .none))))) (Φ (.bool false) .none)) := by kernel_rfl
theorem read_bytes {bl : List (List AV)} (hb : IsBlocks bl) (z p n : Int) : ∀ e ∈ readR bl z p n, isByte e := by
  intro e he
  unfold readR at he
  obtain ⟨i, _, rfl⟩ := List.mem_map.1 he
  exact byteR_row hb i
theorem fn63 : SpecSound Try.prog 63 (.fn CSm2 (fun _ => .bool true)) := dat_soundC te_ok GE63_sound mixed isFun_63 (by
  rintro xs Φ ⟨⟨z, bl, rfl, hb, h0, h1⟩, h⟩
  refine Eq.mpr (v63 ..) ?_
  have hr := read_bytes hb z 0 z
  refine ifB_beq' ⟨⟨hb, by omega, by omega, h0, h1⟩, hr, ⟨hb, by omega, by omega, h0, h1⟩, hr, ?_⟩
  rw [show ((strOf (readR bl z 0 z)).toList == (strOf (readR bl z 0 z)).toList) = true from beq_self_eq_true _]
  exact h)
/-! ref3: names, Nodes, Same, of a thing and itself -/
def CNmS : List AV → Prop := fun xs => ∃ nm, xs = [.sl 2 false nm, .sl 2 false nm] ∧ IsNames nm
theorem isFun_62 : IsFun Try.prog 62 Try.f62 := ⟨Try.func62, by kernel_rfl, by kernel_rfl⟩
theorem v62 (nm : List (List AV)) (Φ : AV → Ent → Prop) : wFunC te nGE' Try.f62 [(.sl 2 false nm), (.sl 2 false nm)] [] (datFin Φ) = (ifB ((nm.length : Int) != (nm.length : Int)) (Φ (.bool false) .none) (wLoopC 0 (wCodeC te nGE' 0 (bodyAt Try.f62 [false, false, true, false, true, true])) ⟨((.sl 2 false nm) :: ((.sl 2 false nm) :: (jk 2 ((.bool false) :: ((.int .i64 0) :: ((.sl 2 false nm) :: ((.int .i64 (nm.length : Int)) :: ((.sl 2 false nm) :: ((.int .i64 (nm.length : Int)) :: ((.bool ((nm.length : Int) != (nm.length : Int))) :: (jk 15 []))))))))))), []⟩ (blkQ 0 (seqQ (wCodeC te nGE' 0 (bodyAt Try.f62 [false, false, false])) (endQ te Try.f62 (datFin Φ)))))) := by kernel_rfl
def t62 (nm : List (List AV)) (i : Int) : St := ⟨((.sl 2 false nm) :: ((.sl 2 false nm) :: (jk 3 ((.int .i64 i) :: (jk 20 []))))), []⟩
def k62 : List Bool := [true, true, false, false, false, true, false, false, false, false, false, false, false, false, false, false, false, false, false, false, false, false, false, false, false, false]
theorem b62 (nm : List (List AV)) (i : Int) (K : KontX) (Φ : AV → Ent → Prop) : wCodeC te nGE' 0 (bodyAt Try.f62 [false, false, true, false, true, true]) (t62 nm i) (cutK ((endQ te Try.f62 (datFin Φ)) .ret) k62 0 K) = (ifB (!leI (nm.length : Int) i) ((0 ≤ i ∧ i < (nm.length : Int)) ∧ (∃ s20, cellAt nm i.toNat 0 = (.str s20) ∧ ∃ n21, cellAt nm i.toNat 1 = (.int .i64 n21) ∧ ((0 ≤ i ∧ i < (nm.length : Int)) ∧ (∃ s22, cellAt nm i.toNat 0 = (.str s22) ∧ ∃ n23, cellAt nm i.toNat 1 = (.int .i64 n23) ∧ (ifB (!((s20.toList == s22.toList) && ((n21 == n23) && true))) (Φ (.bool false) .none) (K .normal (t62 nm (IntKind.i64.wrap (i + 1))))))))) (K (.exit 0) (t62 nm i))) := by kernel_rfl
theorem e62 (nm : List (List AV)) (i : Int) (Φ : AV → Ent → Prop) : wCodeC te nGE' 0 (bodyAt Try.f62 [false, false, false]) (t62 nm i) (endQ te Try.f62 (datFin Φ)) = (Φ (.bool true) .none) := by kernel_rfl
theorem ifB_eq {α : Type} [DecidableEq α] {a : α} {A B : Prop} (h : B) : ifB (a != a) A B := by
  have : (a != a) = false := by simp
  rw [this]; exact h
theorem fn62 : SpecSound Try.prog 62 (.fn CNmS (fun _ => .bool true)) := dat_soundC te_ok nGE'_sound mixed isFun_62 (by
  rintro xs Φ ⟨⟨nm, rfl, hn⟩, h⟩
  have hl := hn.2.2
  refine Eq.mpr (v62 ..) (ifB_eq ?_)
  refine loopC k62 0 (fun n st => ∃ i : Nat, i + n = nm.length ∧ st = t62 nm i) (by omega) ⟨nm.length, _, ⟨0, by omega, rfl⟩, reT_to k62 0 rfl (by omega) rfl⟩ ?_
  rintro n st ⟨i, hi, rfl⟩
  rw [b62]
  refine ifB_both (fun c1 => ?_) (fun c1 => ?_)
  · have c1' := lt_of_nleI c1
    have hlt : i < nm.length := by omega
    obtain ⟨a, k, hrow, q0, q1, _⟩ := names_at hn hlt
    have hw : IntKind.i64.wrap ((i : Int) + 1) = ((i + 1 : Nat) : Int) := by rw [IntWalk.i64_in _ (by omega)]; omega
    have hi' : (0 : Int) ≤ i ∧ (i : Int) < (nm.length : Int) := by omega
    refine ⟨hi', a, by rw [Int.toNat_natCast]; exact q0, k, by rw [Int.toNat_natCast]; exact q1, hi', a, by rw [Int.toNat_natCast]; exact q0, k, by rw [Int.toNat_natCast]; exact q1, ifB_no ?_ ?_⟩
    · simp
    · rw [hw]
      exact rc_next (n - 1) (by omega) ⟨i + 1, by omega, rfl⟩
  · refine rc_exit ?_
    rw [e62]
    exact h)
/-- A node whose file's size may be. -/
def SzR (r : List AV) : Prop := 0 ≤ nI r 4 ∧ nI r 4 ≤ 100000
def SzOK (es : List (List AV)) : Prop := ∀ r ∈ es, SzR r
def CNdS : List AV → Prop := fun xs => ∃ r, xs = [.agg r, .agg r] ∧ IsNode r ∧ SzR r
theorem isFun_34 : IsFun Try.prog 34 Try.f34 := ⟨Try.func34, by kernel_rfl, by kernel_rfl⟩
def GE34 : GE := fun f => match f with
  | 62 => some (.fn CNmS (fun _ => .bool true))
  | 63 => some (.fn CSm2 (fun _ => .bool true))
  | _ => none
theorem GE34_sound : Sound Try.prog GE34 := by
  intro f sp h
  unfold GE34 at h
  split at h
  · cases h; exact fn62
  · cases h; exact fn63
  · cases h
theorem v34 (d0 d1 d2 d3 d4 : Int) (bl nm : List (List AV)) (t : ByteArray) (Φ : AV → Ent → Prop) : wFunC te GE34 Try.f34 [(.agg [(.int .i64 d0), (.int .i64 d1), (.int .i64 d2), (.int .i64 d3), (.int .i64 d4), (.sl 2 false bl), (.str t), (.sl 2 false nm)]), (.agg [(.int .i64 d0), (.int .i64 d1), (.int .i64 d2), (.int .i64 d3), (.int .i64 d4), (.sl 2 false bl), (.str t), (.sl 2 false nm)])] [] (datFin Φ) = (ifB (d0 == d0) (ifB (d1 == d1) (ifB (d2 == d2) (ifB (d3 == d3) (ifB (t.toList == t.toList) (CNmS [(.sl 2 false nm), (.sl 2 false nm)] ∧ (CSm2 [(fA d4 bl), (fA d4 bl)] ∧ (Φ (.bool true) .none))) (Φ (.bool false) .none)) (Φ (.bool false) .none)) (Φ (.bool false) .none)) (Φ (.bool false) .none)) (Φ (.bool false) .none)) := by kernel_rfl
theorem fn34 : SpecSound Try.prog 34 (.fn CNdS (fun _ => .bool true)) := dat_soundC te_ok GE34_sound mixed isFun_34 (by
  rintro xs Φ ⟨⟨r, rfl, hr, hz⟩, h⟩
  obtain ⟨d0, d1, d2, d3, d4, bl, t, nm, rfl, hbl, hnm⟩ := hr
  refine Eq.mpr (v34 ..) (ifB_beq' (ifB_beq' (ifB_beq' (ifB_beq' (ifB_yes (beq_self_eq_true _) ?_)))))
  exact ⟨⟨nm, rfl, hnm⟩, ⟨_, _, rfl, hbl, hz⟩, h⟩)
def CDkS : List AV → Prop := fun xs => ∃ a b c es, xs = [dA a b c es, dA a b c es] ∧ IsNodes es ∧ SzOK es
theorem isFun_9 : IsFun Try.prog 9 Try.f9 := ⟨Try.func9, by kernel_rfl, by kernel_rfl⟩
def GE9 : GE := fun f => match f with
  | 34 => some (.fn CNdS (fun _ => .bool true))
  | _ => none
theorem GE9_sound : Sound Try.prog GE9 := by
  intro f sp h
  unfold GE9 at h
  split at h
  · cases h; exact fn34
  · cases h
theorem v9 (a b c : Int) (es : List (List AV)) (Φ : AV → Ent → Prop) : wFunC te GE9 Try.f9 [(dA a b c es), (dA a b c es)] [] (datFin Φ) = (ifB (a != a) (Φ (.bool false) .none) (ifB (b != b) (Φ (.bool false) .none) (ifB (c != c) (Φ (.bool false) .none) (ifB ((es.length : Int) != (es.length : Int)) (Φ (.bool false) .none) (wLoopC 0 (wCodeC te GE9 0 (bodyAt Try.f9 [false, false, true, false, true, true])) ⟨((dA a b c es) :: ((dA a b c es) :: ((.ptr 0 0) :: ((.ptr 1 0) :: ((.bool false) :: ((.int .i64 0) :: ((.ptr 0 0) :: ((.int .i64 a) :: ((.ptr 1 0) :: ((.int .i64 a) :: ((.bool (a != a)) :: ((.bool false) :: ((.ptr 0 1) :: ((.int .i64 b) :: ((.ptr 1 1) :: ((.int .i64 b) :: ((.bool (b != b)) :: ((.bool (b != b)) :: ((.bool false) :: ((.ptr 0 2) :: ((.int .i64 c) :: ((.ptr 1 2) :: ((.int .i64 c) :: ((.bool (c != c)) :: ((.bool (c != c)) :: ((.bool false) :: ((.ptr 0 3) :: ((.sl 8 false es) :: ((.int .i64 (es.length : Int)) :: ((.ptr 1 3) :: ((.sl 8 false es) :: ((.int .i64 (es.length : Int)) :: ((.bool ((es.length : Int) != (es.length : Int))) :: ((.bool ((es.length : Int) != (es.length : Int))) :: (jk 19 []))))))))))))))))))))))))))))))))))), [(dV a b c es), (dV a b c es)]⟩ (blkQ 0 (seqQ (wCodeC te GE9 0 (bodyAt Try.f9 [false, false, false])) (endQ te Try.f9 (datFin Φ))))))))) := by kernel_rfl
def t9 (a b c : Int) (es : List (List AV)) (i : Int) : St := ⟨(jk 2 ((.ptr 0 0) :: ((.ptr 1 0) :: (jk 1 ((.int .i64 i) :: (jk 47 [])))))), [(dV a b c es), (dV a b c es)]⟩
def k9 : List Bool := [false, false, true, true, false, true, false, false, false, false, false, false, false, false, false, false, false, false, false, false, false, false, false, false, false, false, false, false, false, false, false, false, false, false, false, false, false, false, false, false, false, false, false, false, false, false, false, false, false, false, false, false, false]
theorem b9 (a b c : Int) (es : List (List AV)) (i : Int) (K : KontX) (Φ : AV → Ent → Prop) : wCodeC te GE9 0 (bodyAt Try.f9 [false, false, true, false, true, true]) (t9 a b c es i) (cutK ((endQ te Try.f9 (datFin Φ)) .ret) k9 2 K) = (ifB (!leI (es.length : Int) i) ((0 ≤ i ∧ i < (es.length : Int)) ∧ (∃ n24, cellAt es i.toNat 0 = (.int .i64 n24) ∧ ∃ n25, cellAt es i.toNat 1 = (.int .i64 n25) ∧ ∃ n26, cellAt es i.toNat 2 = (.int .i64 n26) ∧ ∃ n27, cellAt es i.toNat 3 = (.int .i64 n27) ∧ ∃ n28, cellAt es i.toNat 4 = (.int .i64 n28) ∧ ∃ r29, cellAt es i.toNat 5 = (.sl 2 false r29) ∧ ∃ s30, cellAt es i.toNat 6 = (.str s30) ∧ ∃ r31, cellAt es i.toNat 7 = (.sl 2 false r31) ∧ ((0 ≤ i ∧ i < (es.length : Int)) ∧ (∃ n32, cellAt es i.toNat 0 = (.int .i64 n32) ∧ ∃ n33, cellAt es i.toNat 1 = (.int .i64 n33) ∧ ∃ n34, cellAt es i.toNat 2 = (.int .i64 n34) ∧ ∃ n35, cellAt es i.toNat 3 = (.int .i64 n35) ∧ ∃ n36, cellAt es i.toNat 4 = (.int .i64 n36) ∧ ∃ r37, cellAt es i.toNat 5 = (.sl 2 false r37) ∧ ∃ s38, cellAt es i.toNat 6 = (.str s38) ∧ ∃ r39, cellAt es i.toNat 7 = (.sl 2 false r39) ∧ (CNdS [(.agg [(.int .i64 n24), (.int .i64 n25), (.int .i64 n26), (.int .i64 n27), (.int .i64 n28), (.sl 2 false r29), (.str s30), (.sl 2 false r31)]), (.agg [(.int .i64 n32), (.int .i64 n33), (.int .i64 n34), (.int .i64 n35), (.int .i64 n36), (.sl 2 false r37), (.str s38), (.sl 2 false r39)])] ∧ (K .normal (t9 a b c es (IntKind.i64.wrap (i + 1))))))))) (K (.exit 0) (t9 a b c es i))) := by kernel_rfl
theorem e9 (a b c : Int) (es : List (List AV)) (i : Int) (Φ : AV → Ent → Prop) : wCodeC te GE9 0 (bodyAt Try.f9 [false, false, false]) (t9 a b c es i) (endQ te Try.f9 (datFin Φ)) = (Φ (.bool true) .none) := by kernel_rfl
theorem fn9 : SpecSound Try.prog 9 (.fn CDkS (fun _ => .bool true)) := dat_soundC te_ok GE9_sound mixed isFun_9 (by
  rintro xs Φ ⟨⟨a, b, c, es, rfl, hn, hz⟩, h⟩
  have hl := hn.2.2
  refine Eq.mpr (v9 ..) (ifB_eq (ifB_eq (ifB_eq (ifB_eq ?_))))
  refine loopC k9 2 (fun n st => ∃ i : Nat, i + n = es.length ∧ st = t9 a b c es i) (by omega) ⟨es.length, _, ⟨0, by omega, rfl⟩, reT_to k9 2 rfl (by omega) rfl⟩ ?_
  rintro n st ⟨i, hi, rfl⟩
  rw [b9]
  refine ifB_both (fun c1 => ?_) (fun c1 => ?_)
  · have c1' := lt_of_nleI c1
    have hlt : i < es.length := by omega
    have hw : IntKind.i64.wrap ((i : Int) + 1) = ((i + 1 : Nat) : Int) := by rw [IntWalk.i64_in _ (by omega)]; omega
    have hi' : (0 : Int) ≤ i ∧ (i : Int) < (es.length : Int) := by omega
    have hnode := node_get hn hlt
    refine ⟨hi', ex_node hn hlt ⟨hi', ex_node hn hlt ⟨⟨es[i], ?_, hnode, hz _ (List.getElem_mem hlt)⟩, ?_⟩⟩⟩
    · have := cells_of hnode
      show [AV.agg (cells es[i]), AV.agg (cells es[i])] = _
      rw [this]
    · rw [hw]
      exact rc_next (n - 1) (by omega) ⟨i + 1, by omega, rfl⟩
  · refine rc_exit ?_
    rw [e9]
    exact h)
theorem isFun_12 : IsFun Try.prog 12 Try.f12 := ⟨Try.func12, by kernel_rfl, by kernel_rfl⟩
theorem v12 (a b c : Int) (es : List (List AV)) (Φ : AV → Ent → Prop) : wFunC te nGE' Try.f12 [(dA a b c es)] [] (datFin Φ) = (wLoopC 0 (wCodeC te nGE' 0 (bodyAt Try.f12 [false, false, true, false, true, true])) ⟨((dA a b c es) :: ((.ptr 0 0) :: ((.int .i64 0) :: ((.int .i64 0) :: ((.int .i64 0) :: ((.int .i64 0) :: (jk 21 []))))))), [(dV a b c es)]⟩ (blkQ 0 (seqQ (wCodeC te nGE' 0 (bodyAt Try.f12 [false, false, false])) (endQ te Try.f12 (datFin Φ))))) := by kernel_rfl
def t12 (a b c : Int) (es : List (List AV)) (n i : Int) : St := ⟨(jk 1 ((.ptr 0 0) :: (jk 2 ((.int .i64 n) :: ((.int .i64 i) :: (jk 21 [])))))), [(dV a b c es)]⟩
def k12 : List Bool := [false, true, false, false, true, true, false, false, false, false, false, false, false, false, false, false, false, false, false, false, false, false, false, false, false, false, false]
theorem b12 (a b c : Int) (es : List (List AV)) (n i : Int) (K : KontX) (Φ : AV → Ent → Prop) : wCodeC te nGE' 0 (bodyAt Try.f12 [false, false, true, false, true, true]) (t12 a b c es n i) (cutK ((endQ te Try.f12 (datFin Φ)) .ret) k12 1 K) = (ifB (!leI (es.length : Int) i) ((0 ≤ i ∧ i < (es.length : Int)) ∧ (∃ r40, cellAt es i.toNat 5 = (.sl 2 false r40) ∧ (K .normal (t12 a b c es (IntKind.i64.wrap (n + (r40.length : Int))) (IntKind.i64.wrap (i + 1)))))) (K (.exit 0) (t12 a b c es n i))) := by kernel_rfl
theorem e12 (a b c : Int) (es : List (List AV)) (n i : Int) (Φ : AV → Ent → Prop) : wCodeC te nGE' 0 (bodyAt Try.f12 [false, false, false]) (t12 a b c es n i) (endQ te Try.f12 (datFin Φ)) = (Φ (.tup [(.int .i64 n), (.int .i64 (es.length : Int))]) .none) := by kernel_rfl
theorem fn12 : SpecSound Try.prog 12 (.fn CDk gUsed) := dat_soundC te_ok nGE'_sound mixed isFun_12 (by
  rintro xs Φ ⟨hC, h⟩
  unfold CDk at hC
  split at hC
  · rename_i a b c es
    have hn : IsNodes es := hC
    have hl := hn.2.2
    refine Eq.mpr (v12 ..) ?_
    refine loopC k12 1 (fun n st => ∃ i : Nat, i + n = es.length ∧ st = t12 a b c es (usedR (es.take i)) i) (by omega) ⟨es.length, _, ⟨0, by omega, rfl⟩, reT_to k12 1 rfl (by omega) rfl⟩ ?_
    rintro n st ⟨i, hi, rfl⟩
    rw [b12]
    refine ifB_both (fun c1 => ?_) (fun c1 => ?_)
    · have c1' := lt_of_nleI c1
      have hlt : i < es.length := by omega
      obtain ⟨_, _, _, _, _, bl, _, _, hrow, ⟨_, _, _, _, _, q5, _, _⟩, _⟩ := node_at hn hlt
      have hb := used_bound hn (i + 1)
      have ht := used_take hlt
      have hbl : (sI es[i] 5) = bl := by rw [hrow]; rfl
      have hw : IntKind.i64.wrap ((i : Int) + 1) = ((i + 1 : Nat) : Int) := by rw [IntWalk.i64_in _ (by omega)]; omega
      have hw2 : IntKind.i64.wrap ((usedR (es.take i) : Int) + (bl.length : Int)) = (usedR (es.take (i + 1)) : Int) := by rw [hbl] at ht; rw [IntWalk.i64_in _ (by omega)]; omega
      refine ⟨by omega, bl, by rw [Int.toNat_natCast]; exact q5, ?_⟩
      rw [hw, hw2]
      exact rc_next (n - 1) (by omega) ⟨i + 1, by omega, rfl⟩
    · have c1' := le_of_nleI c1
      refine rc_exit ?_
      rw [e12, List.take_of_length_le (by omega)]
      exact h
  · cases hC)
end Go.Proofs.Ytdojencjbmahpaa
end
