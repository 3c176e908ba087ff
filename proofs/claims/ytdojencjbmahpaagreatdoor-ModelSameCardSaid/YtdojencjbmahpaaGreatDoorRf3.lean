/-
  THE SYMBOLIC EXECUTOR, part 3: when a machine's value is told by an abstract one; when the machine's memory is told by the abstract memory.
-/
import Derived.Test.YtdojencjbmahpaaGreatDoorRf2
set_option linter.unusedVariables false
set_option linter.unusedSimpArgs false
namespace Go.Rf

/-- Where a place of the abstract memory lies: its block, how many elements fit, which version it is, how many cells an element has. -/
structure Loc where
  blk : Nat
  cap : Nat
  ver : Nat
  sz : Nat

abbrev Reg := Nat → Loc

/-- A value is told by an abstract value. S: the blocks that nobody writes any more. n: how many places there are. -/
inductive Rd (w : World) (S : Nat → Prop) (ρ : Reg) : Nat → AV → Value → Prop
  | junk (n : Nat) (v : Value) : Rd w S ρ n .junk v
  | int (n : Nat) (k : IntKind) (x : Int) : Rd w S ρ n (.int k x) (.int k x)
  | bool (n : Nat) (b : Bool) : Rd w S ρ n (.bool b) (.bool b)
  | str (n : Nat) (s : ByteArray) : Rd w S ρ n (.str s) (.string s)
  | fn (n : Nat) (f : FuncId) : Rd w S ρ n (.fn f) (.func (.func f) #[] #[])
  | agg (n : Nat) (cs : List AV) (vs : List Value) (hl : cs.length = vs.length) (h1 : ∀ v ∈ vs, v.oneCell' = true)
      (h : ∀ (i : Nat) (a : AV) (v : Value), cs[i]? = some a → vs[i]? = some v → Rd w S ρ n a v) : Rd w S ρ n (.agg cs) (.agg vs.toArray)
  | tup (n : Nat) (cs : List AV) (vs : List Value) (hl : cs.length = vs.length)
      (h : ∀ (i : Nat) (a : AV) (v : Value), cs[i]? = some a → vs[i]? = some v → Rd w S ρ n a v) : Rd w S ρ n (.tup cs) (.tuple vs.toArray)
  | sl (n sz : Nat) (fr : Bool) (es : List (List AV)) (A : Option Addr) (len cap : Nat) (cell : Nat → Nat → Value) (hl : es.length = len) (hc : len ≤ cap) (hm : cap ≤ maxLen)
      (hf : fr = true → cap = len) (hsz : ∀ e ∈ es, e.length = sz)
      (hcell : ∀ i k, i < len → k < sz → ∃ a, A = some a ∧ S a.block ∧ w.cell? (a.add (i * sz + k)) = some (cell i k) ∧ (cell i k).oneCell' = true)
      (hA : 0 < len → A.isSome = true)
      (h : ∀ (i k : Nat) (e : List AV) (a : AV), es[i]? = some e → e[k]? = some a → Rd w S ρ 0 a (cell i k)) : Rd w S ρ n (.sl sz fr es) (.slice A len cap)
  | own (n p ver len : Nat) (A : Option Addr) (cap : Nat) (hp : p < n) (hv : ver ≤ (ρ p).ver) (hc : len ≤ cap) (hA : 0 < len → A.isSome = true)
      (h : ver = (ρ p).ver → cap = (ρ p).cap ∧ (0 < cap → A = some ⟨(ρ p).blk, 0, none⟩)) : Rd w S ρ n (.own p ver len) (.slice A len cap)
  | osub (n p ver off len : Nat) (A : Option Addr) (cap : Nat) (hp : p < n) (hv : ver ≤ (ρ p).ver) (hc : len ≤ cap) (hA : 0 < len → A.isSome = true)
      (h : ver = (ρ p).ver → off + cap = (ρ p).cap ∧ (0 < cap → A = some ⟨(ρ p).blk, off * (ρ p).sz, none⟩)) : Rd w S ρ n (.osub p ver off len) (.slice A len cap)
  | ptr (n p off : Nat) (A : Addr) (hp : p < n) (hv : 1 ≤ (ρ p).ver) (h : (ρ p).ver = 1 → A = ⟨(ρ p).blk, off, none⟩) : Rd w S ρ n (.ptr p off) (.pointer (some A))
  | eptr (n p ver i k : Nat) (A : Addr) (hp : p < n) (hv : ver ≤ (ρ p).ver) (h : ver = (ρ p).ver → i < (ρ p).cap → A = ⟨(ρ p).blk, i * (ρ p).sz + k, none⟩) : Rd w S ρ n (.eptr p ver i k) (.pointer (some A))
  | rptr (n sz : Nat) (es : List (List AV)) (i k : Nat) (a : Addr) (e : List AV) (cell : Nat → Value) (he : es[i]? = some e) (hl : e.length = sz)
      (hcell : ∀ j, k ≤ j → j < sz → S a.block ∧ w.cell? (a.add (j - k)) = some (cell j) ∧ (cell j).oneCell' = true)
      (h : ∀ (j : Nat) (x : AV), e[j]? = some x → Rd w S ρ 0 x (cell j)) : Rd w S ρ n (.rptr sz es i k) (.pointer (some a))

/-- Later memory: what was stable is, and reads the same. -/
def Later (S S' : Nat → Prop) (w w' : World) : Prop := ∀ k, S k → S' k ∧ w'.heap[k]? = w.heap[k]?
def Newer (ρ ρ' : Reg) (n : Nat) : Prop := ∀ p, p < n → ρ' p = ρ p ∨ (ρ p).ver < (ρ' p).ver

theorem Later.refl (S : Nat → Prop) (w : World) : Later S S w w := fun _ h => ⟨h, rfl⟩
theorem Later.trans {S S' S'' : Nat → Prop} {w w' w'' : World} (h : Later S S' w w') (k : Later S' S'' w' w'') : Later S S'' w w'' :=
  fun i hi => ⟨(k i (h i hi).1).1, (k i (h i hi).1).2.trans (h i hi).2⟩
theorem Newer.refl (ρ : Reg) (n : Nat) : Newer ρ ρ n := fun _ _ => .inl rfl
theorem Newer.trans {ρ ρ' ρ'' : Reg} {n : Nat} (h : Newer ρ ρ' n) (k : Newer ρ' ρ'' n) : Newer ρ ρ'' n := by
  intro p hp
  rcases h p hp with h1 | h1 <;> rcases k p hp with k1 | k1
  · exact .inl (k1.trans h1)
  · exact .inr (by rw [← h1]; exact k1)
  · exact .inr (by rw [k1]; exact h1)
  · exact .inr (Nat.lt_trans h1 k1)
theorem Newer.mono {ρ ρ' : Reg} {n m : Nat} (h : Newer ρ ρ' n) (hm : m ≤ n) : Newer ρ ρ' m := fun p hp => h p (Nat.lt_of_lt_of_le hp hm)

theorem cell_later {S S' : Nat → Prop} {w w' : World} (h : Later S S' w w') {a : Addr} (ha : S a.block) (j : Nat) : w'.cell? (a.add j) = w.cell? (a.add j) := by
  have hb : (a.add j).block = a.block := by unfold Addr.add; split <;> rfl
  exact World.cell?_of_block (by rw [hb]; exact (h _ ha).2)

theorem Rd.mono {w w' : World} {S S' : Nat → Prop} {ρ ρ' : Reg} {n : Nat} {a : AV} {v : Value} (h : Rd w S ρ n a v) (hS : Later S S' w w') :
    ∀ {m : Nat}, n ≤ m → Newer ρ ρ' n → Rd w' S' ρ' m a v := by
  induction h with
  | junk => intro m _ _; exact .junk _ _
  | int => intro m _ _; exact .int _ _ _
  | bool => intro m _ _; exact .bool _ _
  | str => intro m _ _; exact .str _ _
  | fn => intro m _ _; exact .fn _ _
  | agg n cs vs hl h1 h ih => intro m hm hn; exact .agg _ cs vs hl h1 fun i a v ha hv => ih i a v ha hv hm hn
  | tup n cs vs hl h ih => intro m hm hn; exact .tup _ cs vs hl fun i a v ha hv => ih i a v ha hv hm hn
  | sl n sz fr es A len cap cell hl hc hx hf hsz hcell hA h ih =>
    intro m hm hn
    refine .sl _ sz fr es A len cap cell hl hc hx hf hsz (fun i k hi hk => ?_) hA fun i k e a he ha => ih i k e a he ha (Nat.le_refl _) (fun p hp => absurd hp (by omega))
    obtain ⟨a, h1, h2, h3, h4⟩ := hcell i k hi hk
    exact ⟨a, h1, (hS _ h2).1, (cell_later hS h2 _).trans h3, h4⟩
  | own n p ver len A cap hp hv hc hA h =>
    intro m hm hn
    rcases hn p hp with e | e
    · exact .own _ _ _ _ _ _ (by omega) (by rw [e]; exact hv) hc hA (by rw [e]; exact h)
    · exact .own _ _ _ _ _ _ (by omega) (by omega) hc hA (fun h' => absurd h' (by omega))
  | osub n p ver off len A cap hp hv hc hA h =>
    intro m hm hn
    rcases hn p hp with e | e
    · exact .osub _ _ _ _ _ _ _ (by omega) (by rw [e]; exact hv) hc hA (by rw [e]; exact h)
    · exact .osub _ _ _ _ _ _ _ (by omega) (by omega) hc hA (fun h' => absurd h' (by omega))
  | ptr n p off A hp hv h =>
    intro m hm hn
    rcases hn p hp with e | e
    · exact .ptr _ _ _ _ (by omega) (by rw [e]; exact hv) (by rw [e]; exact h)
    · exact .ptr _ _ _ _ (by omega) (by omega) (fun h' => absurd h' (by omega))
  | eptr n p ver i k A hp hv h =>
    intro m hm hn
    rcases hn p hp with e | e
    · exact .eptr _ _ _ _ _ _ (by omega) (by rw [e]; exact hv) (by rw [e]; exact h)
    · exact .eptr _ _ _ _ _ _ (by omega) (by omega) (fun h' => absurd h' (by omega))
  | rptr n sz es i k a e cell he hl hcell h ih =>
    intro m hm hn
    refine .rptr _ sz es i k a e cell he hl (fun j h1 h2 => ?_) fun j x hx => ih j x hx (Nat.le_refl _) (fun p hp => absurd hp (by omega))
    obtain ⟨h3, h4, h5⟩ := hcell j h1 h2
    exact ⟨(hS _ h3).1, (cell_later hS h3 _).trans h4, h5⟩

theorem leb_le : ∀ {n m : Nat}, leb n m = true → n ≤ m
  | 0, _, _ => Nat.zero_le _
  | n + 1, 0, h => by simp [leb] at h
  | n + 1, m + 1, h => Nat.succ_le_succ (leb_le (n := n) (m := m) h)
theorem eqb_eq : ∀ {n m : Nat}, eqb n m = true → n = m
  | 0, 0, _ => rfl
  | 0, m + 1, h => by simp [eqb] at h
  | n + 1, 0, h => by simp [eqb] at h
  | n + 1, m + 1, h => congrArg (· + 1) (eqb_eq (n := n) (m := m) h)
theorem kn_eq {k l : IntKind} (h : eqb (kn k) (kn l) = true) : k = l := by cases k <;> cases l <;> first | rfl | (exact absurd h (by decide))
theorem lenLe_le {α : Type} : ∀ {n : Nat} {l : List α}, lenLe n l = true → n ≤ l.length
  | 0, _, _ => Nat.zero_le _
  | n + 1, [], h => by simp [lenLe] at h
  | n + 1, _ :: l, h => Nat.succ_le_succ (lenLe_le (n := n) (l := l) h)
theorem lenEq_eq {α : Type} : ∀ {n : Nat} {l : List α}, lenEq n l = true → l.length = n
  | 0, [], _ => rfl
  | 0, _ :: _, h => by simp [lenEq] at h
  | n + 1, [], h => by simp [lenEq] at h
  | n + 1, _ :: l, h => congrArg (· + 1) (lenEq_eq (n := n) (l := l) h)
theorem andB_true {a b : Bool} (h : andB a b = true) : a = true ∧ b = true := by cases a <;> cases b <;> simp_all [andB]
theorem orB_false {a b : Bool} (h : orB a b = false) : a = false ∧ b = false := by cases a <;> cases b <;> simp_all [orB]
theorem ifo_some {α : Type} {b : Bool} {x : Option α} {y : α} (h : ifo b x = some y) : b = true ∧ x = some y := by cases b <;> simp_all [ifo]

/-- What names no place beyond n needs no more than n. -/
theorem Rd.below1 {w : World} {S : Nat → Prop} {ρ : Reg} {n m : Nat} {a : AV} {v : Value} (h : Rd w S ρ n a v) (hb : below1 m a = true) : Rd w S ρ m a v := by
  cases h with
  | junk => exact .junk _ _
  | int => exact .int _ _ _
  | bool => exact .bool _ _
  | str => exact .str _ _
  | fn => exact .fn _ _
  | agg => simp [Rf.below1] at hb
  | tup => simp [Rf.below1] at hb
  | sl _ sz fr es A len cap cell hl hc hx hf hsz hcell hA h => exact .sl _ sz fr es A len cap cell hl hc hx hf hsz hcell hA h
  | own _ p ver len A cap hp hv hc hA h => exact .own _ _ _ _ _ _ (leb_le hb) hv hc hA h
  | osub _ p ver off len A cap hp hv hc hA h => exact .osub _ _ _ _ _ _ _ (leb_le hb) hv hc hA h
  | ptr _ p off A hp hv h => exact .ptr _ _ _ _ (leb_le hb) hv h
  | eptr _ p ver i k A hp hv h => exact .eptr _ _ _ _ _ _ (leb_le hb) hv h
  | rptr _ sz es i k a e cell he hl hcell h => exact .rptr _ sz es i k a e cell he hl hcell h

theorem Rd.belowL {w : World} {S : Nat → Prop} {ρ : Reg} {n m : Nat} : ∀ {cs : List AV}, belowL m cs = true → ∀ (i : Nat) (a : AV) (v : Value), cs[i]? = some a → Rd w S ρ n a v → Rd w S ρ m a v
  | [], _, i, a, v, h, _ => by simp at h
  | c :: cs, hb, i, a, v, h, hr => by
    obtain ⟨h1, h2⟩ := andB_true hb
    cases i with
    | zero => simp at h; subst h; exact hr.below1 h1
    | succ i => exact Rd.belowL h2 i a v (by simpa using h) hr

theorem Rd.under {w : World} {S : Nat → Prop} {ρ : Reg} {n m : Nat} {a : AV} {v : Value} (h : Rd w S ρ n a v) (hb : Rf.below m a = true) : Rd w S ρ m a v := by
  cases h with
  | agg _ cs vs hl h1 h => exact .agg _ cs vs hl h1 fun i a v ha hv => Rd.belowL hb i a v ha (h i a v ha hv)
  | tup => simp [Rf.below] at hb
  | junk => exact .junk _ _
  | int => exact .int _ _ _
  | bool => exact .bool _ _
  | str => exact .str _ _
  | fn => exact .fn _ _
  | sl _ sz fr es A len cap cell hl hc hx hf hsz hcell hA h => exact .sl _ sz fr es A len cap cell hl hc hx hf hsz hcell hA h
  | own _ p ver len A cap hp hv hc hA h => exact .own _ _ _ _ _ _ (leb_le hb) hv hc hA h
  | osub _ p ver off len A cap hp hv hc hA h => exact .osub _ _ _ _ _ _ _ (leb_le hb) hv hc hA h
  | ptr _ p off A hp hv h => exact .ptr _ _ _ _ (leb_le hb) hv h
  | eptr _ p ver i k A hp hv h => exact .eptr _ _ _ _ _ _ (leb_le hb) hv h
  | rptr _ sz es i k a e cell he hl hcell h => exact .rptr _ sz es i k a e cell he hl hcell h

theorem Rd.closed1 {w : World} {S : Nat → Prop} {ρ : Reg} {n : Nat} {a : AV} {v : Value} (h : Rd w S ρ n a v) (hb : closed1 a = true) : Rd w S ρ 0 a v := by
  cases h <;> first
    | (simp [Rf.closed1] at hb; done)
    | exact .junk _ _
    | exact .int _ _ _
    | exact .bool _ _
    | exact .str _ _
    | exact .fn _ _
    | (rename_i sz fr es A len cap cell hl hc hx hf hsz hcell hA h; exact .sl _ sz fr es A len cap cell hl hc hx hf hsz hcell hA h)

theorem Rd.names1 {w : World} {S : Nat → Prop} {ρ : Reg} {n : Nat} {a : AV} {v : Value} (h : Rd w S ρ n a v) (hb : names1 a = false) : Rd w S ρ 0 a v := by
  cases h <;> first
    | (simp [Rf.names1] at hb; done)
    | exact .int _ _ _
    | exact .bool _ _
    | exact .str _ _
    | exact .fn _ _
    | (rename_i sz fr es A len cap cell hl hc hx hf hsz hcell hA h; exact .sl _ sz fr es A len cap cell hl hc hx hf hsz hcell hA h)

/-- Forgetting the right to append. -/
theorem Rd.nf {w : World} {S : Nat → Prop} {ρ : Reg} {n : Nat} {a : AV} {v : Value} (h : Rd w S ρ n a v) : Rd w S ρ n (nf a) v := by
  cases h with
  | sl _ sz fr es A len cap cell hl hc hx hf hsz hcell hA h => exact .sl _ sz false es A len cap cell hl hc hx (by simp) hsz hcell hA h
  | agg _ cs vs hl h1 h => exact .agg _ cs vs hl h1 h
  | tup _ cs vs hl h => exact .tup _ cs vs hl h
  | junk => exact .junk _ _
  | int => exact .int _ _ _
  | bool => exact .bool _ _
  | str => exact .str _ _
  | fn => exact .fn _ _
  | own _ p ver len A cap hp hv hc hA h => exact .own _ _ _ _ _ _ hp hv hc hA h
  | osub _ p ver off len A cap hp hv hc hA h => exact .osub _ _ _ _ _ _ _ hp hv hc hA h
  | ptr _ p off A hp hv h => exact .ptr _ _ _ _ hp hv h
  | eptr _ p ver i k A hp hv h => exact .eptr _ _ _ _ _ _ hp hv h
  | rptr _ sz es i k a e cell he hl hcell h => exact .rptr _ sz es i k a e cell he hl hcell h

theorem nfs_get : ∀ (cs : List AV) (i : Nat), (nfs cs)[i]? = cs[i]?.map nf
  | [], i => by simp [nfs]
  | c :: cs, 0 => by simp [nfs]
  | c :: cs, i + 1 => by simpa [nfs] using nfs_get cs i
theorem nfs_length : ∀ (cs : List AV), (nfs cs).length = cs.length
  | [] => rfl
  | _ :: cs => congrArg (· + 1) (nfs_length cs)

/-! ### The memory -/
def live (ρ : Reg) (p : Nat) : Ent → Prop
  | .none => False
  | .var _ => True
  | .arr .. => 0 < (ρ p).cap

/-- A row of cells, told. -/
def CellsRd (w : World) (S : Nat → Prop) (ρ : Reg) (n : Nat) (cells : List AV) (cs : Array Value) : Prop :=
  cs.size = cells.length ∧ (∀ v ∈ cs, v.oneCell' = true) ∧ ∀ (i : Nat) (a : AV) (v : Value), cells[i]? = some a → cs[i]? = some v → Rd w S ρ n a v

def EntRd (w : World) (S : Nat → Prop) (ρ : Reg) (n p : Nat) : Ent → Prop
  | .none => (ρ p).ver = 0
  | .var cells => (ρ p).ver = 1 ∧ ∃ cs ty, w.heap[(ρ p).blk]? = some (.cells cs ty (0, 0)) ∧ CellsRd w S ρ n cells cs
  | .arr cl ver sz cap es => (ρ p).ver = ver ∧ 0 < ver ∧ (ρ p).sz = sz ∧ 0 < sz ∧ es.length ≤ (ρ p).cap ∧ (ρ p).cap ≤ maxLen ∧ (∀ c, cap = some c → c = (ρ p).cap) ∧ (∀ e ∈ es, e.length = sz) ∧
      (0 < (ρ p).cap → ∃ cs ty, w.heap[(ρ p).blk]? = some (.cells cs ty (0, 0)) ∧ cs.size = (ρ p).cap * sz ∧ (∀ v ∈ cs, v.oneCell' = true) ∧
        ∀ (i k : Nat) (e : List AV) (a : AV) (v : Value), es[i]? = some e → e[k]? = some a → cs[i * sz + k]? = some v → Rd w S ρ (if cl then 0 else n) a v)

/-- The blocks of the call's own. -/
def Own (ρ : Reg) (H : List Ent) (k : Nat) : Prop := ∃ p e, H[p]? = some e ∧ live ρ p e ∧ (ρ p).blk = k

structure RH (w : World) (S : Nat → Prop) (ρ : Reg) (H : List Ent) : Prop where
  ent : ∀ p e, H[p]? = some e → EntRd w S ρ H.length p e
  apart : ∀ p q e f, H[p]? = some e → H[q]? = some f → live ρ p e → live ρ q f → p ≠ q → (ρ p).blk ≠ (ρ q).blk
  stab : ∀ k, S k → k < w.heap.size ∧ ¬ Own ρ H k

/-- How the memory goes on. -/
structure Goes (w : World) (S : Nat → Prop) (ρ : Reg) (H : List Ent) (w' : World) (S' : Nat → Prop) (ρ' : Reg) (H' : List Ent) (fl : Nat) : Prop where
  os : w'.os = w.os
  tape : w'.tape = w.tape
  output : w'.output = w.output
  size : w.heap.size ≤ w'.heap.size
  keep : ∀ k, k < w.heap.size → ¬ Own ρ H k → w'.heap[k]? = w.heap[k]?
  own : ∀ k, Own ρ' H' k → Own ρ H k ∨ w.heap.size ≤ k
  up : ∀ k, S k → S' k
  down : ∀ k, S' k → S k ∨ Own ρ H k ∨ w.heap.size ≤ k
  len : fl ≤ H'.length
  newer : Newer ρ ρ' fl

theorem Goes.refl (w : World) (S : Nat → Prop) (ρ : Reg) (H : List Ent) {fl : Nat} (h : fl ≤ H.length) : Goes w S ρ H w S ρ H fl :=
  ⟨rfl, rfl, rfl, Nat.le_refl _, fun _ _ _ => rfl, fun _ h => .inl h, fun _ h => h, fun _ h => .inl h, h, Newer.refl _ _⟩

theorem Goes.trans {w w' w'' : World} {S S' S'' : Nat → Prop} {ρ ρ' ρ'' : Reg} {H H' H'' : List Ent} {fl : Nat}
    (h : Goes w S ρ H w' S' ρ' H' fl) (k : Goes w' S' ρ' H' w'' S'' ρ'' H'' fl) : Goes w S ρ H w'' S'' ρ'' H'' fl where
  os := k.os.trans h.os
  tape := k.tape.trans h.tape
  output := k.output.trans h.output
  size := Nat.le_trans h.size k.size
  keep := fun i hi hn => (k.keep i (Nat.lt_of_lt_of_le hi h.size) (fun ho => by rcases h.own i ho with h1 | h1; exact hn h1; omega)).trans (h.keep i hi hn)
  own := fun i hi => by
    rcases k.own i hi with h1 | h1
    · exact h.own i h1
    · exact .inr (Nat.le_trans h.size h1)
  up := fun i hi => k.up i (h.up i hi)
  down := fun i hi => by
    rcases k.down i hi with h1 | h1 | h1
    · exact h.down i h1
    · exact .inr (h.own i h1)
    · exact .inr (.inr (Nat.le_trans h.size h1))
  len := k.len
  newer := h.newer.trans k.newer

theorem Goes.mono {w w' : World} {S S' : Nat → Prop} {ρ ρ' : Reg} {H H' : List Ent} {fl fm : Nat} (h : Goes w S ρ H w' S' ρ' H' fl) (hm : fm ≤ fl) : Goes w S ρ H w' S' ρ' H' fm :=
  { h with len := Nat.le_trans hm h.len, newer := h.newer.mono hm }

theorem Goes.later {w w' : World} {S S' : Nat → Prop} {ρ ρ' : Reg} {H H' : List Ent} {fl : Nat} (h : Goes w S ρ H w' S' ρ' H' fl) (hr : RH w S ρ H) : Later S S' w w' :=
  fun k hk => ⟨h.up k hk, h.keep k (hr.stab k hk).1 (hr.stab k hk).2⟩

theorem Goes.rd {w w' : World} {S S' : Nat → Prop} {ρ ρ' : Reg} {H H' : List Ent} {fl : Nat} (h : Goes w S ρ H w' S' ρ' H' fl) (hr : RH w S ρ H) {n m : Nat} (hn : n ≤ fl) (hm : n ≤ m)
    {a : AV} {v : Value} (hv : Rd w S ρ n a v) : Rd w' S' ρ' m a v := hv.mono (h.later hr) hm (h.newer.mono hn)

/-- The frame's temporaries and the memory. -/
structure RS (w : World) (S : Nat → Prop) (ρ : Reg) (s : St) (a : Act) : Prop where
  size : a.tmps.size = s.T.length
  tmp : ∀ (i : Nat) (x : AV) (v : Value), s.T[i]? = some x → a.tmps[i]? = some v → Rd w S ρ s.H.length x v
  mem : RH w S ρ s.H
  defers : a.defers = []

theorem RS.ev {w : World} {S : Nat → Prop} {ρ : Reg} {s : St} {a : Act} (h : RS w S ρ s a) (x : Operand) : Rd w S ρ s.H.length (ev s.T x) (a.eval x) := by
  cases x with
  | tmp t =>
    simp only [Rf.ev, Act.eval]
    rcases Nat.lt_or_ge t s.T.length with hl | hl
    · have h1 : s.T[t]? = some s.T[t] := List.getElem?_eq_getElem hl
      have h2 : a.tmps[t]? = some (a.tmps[t]'(by rw [h.size]; exact hl)) := Array.getElem?_eq_getElem _
      have := h.tmp t _ _ h1 h2
      simpa [List.getD_eq_getElem?_getD, Array.getD_eq_getD_getElem?, h1, h2] using this
    · simp [List.getD_eq_getElem?_getD, List.getElem?_eq_none hl]
      exact .junk _ _
  | const v =>
    simp only [Rf.ev, Act.eval]
    unfold avOf
    split
    · exact .bool _ _
    · exact .int _ _ _
    · exact .str _ _
    · exact .sl _ 0 true [] none 0 0 (fun _ _ => default) rfl (Nat.le_refl _) (by decide) (fun _ => rfl) (by simp) (by intro i k hi; omega) (by intro h; omega) (by simp)
    · exact .junk _ _
  | func f => exact .fn _ _
  | global g => exact .junk _ _

theorem RS.put {w : World} {S : Nat → Prop} {ρ : Reg} {s : St} {a : Act} (h : RS w S ρ s a) {x : AV} {v : Value} (hv : Rd w S ρ s.H.length x v) (dst : Option Nat) :
    RS w S ρ ⟨putT s.T x dst, s.H⟩ (a.put dst v) := by
  cases dst with
  | none => exact h
  | some d =>
    refine ⟨by simp [putT, Act.put, h.size], ?_, h.mem, h.defers⟩
    intro i y u hy hu
    simp only [putT, Act.put] at hy hu
    by_cases hd : d = i
    · subst hd
      by_cases hl : d < s.T.length
      · simp [List.getElem?_set, hl] at hy
        simp [Array.getElem?_setIfInBounds, h.size, hl] at hu
        subst hy; subst hu
        exact hv
      · rw [List.getElem?_eq_none (by simp; omega)] at hy
        cases hy
    · rw [List.getElem?_set_ne hd] at hy
      rw [Array.getElem?_setIfInBounds_ne hd] at hu
      exact h.tmp i y u hy hu

/-- The memory has gone on; the temporaries are as they were. -/
theorem RS.goes {w w' : World} {S S' : Nat → Prop} {ρ ρ' : Reg} {s : St} {a : Act} {H' : List Ent} (h : RS w S ρ s a) (hg : Goes w S ρ s.H w' S' ρ' H' s.H.length) (hm : RH w' S' ρ' H') :
    RS w' S' ρ' ⟨s.T, H'⟩ a :=
  ⟨h.size, fun i x v hx hv => hg.rd h.mem (Nat.le_refl _) hg.len (h.tmp i x v hx hv), hm, h.defers⟩

end Go.Rf
