/-
  THE SYMBOLIC EXECUTOR, part 21: a region whose order is open.
-/
import Derived.Test.YtdojencjbmahpaaGreatDoorRfK
set_option linter.unusedVariables false
set_option linter.unusedSimpArgs false
namespace Go.Rf

/-! ### What comes before what -/
theorem befGo_app : ∀ (ops : List Oper) (acc : List (List Bool)), ∃ r, befGo acc ops = acc ++ r ∧ r.length = ops.length
  | [], acc => ⟨[], by simp [befGo], rfl⟩
  | o :: ops, acc => by
    obtain ⟨r, h1, h2⟩ := befGo_app ops (acc ++ [befOne acc o])
    exact ⟨befOne acc o :: r, by simp [befGo, h1], by simp [h2]⟩
theorem befGo_get : ∀ (ops : List Oper) (acc : List (List Bool)) (k : Nat) (o : Oper), ops[k]? = some o → (befGo acc ops)[acc.length + k]? = some (befOne ((befGo acc ops).take (acc.length + k)) o)
  | [], acc, k, o, h => by simp at h
  | x :: ops, acc, 0, o, h => by
    simp only [List.getElem?_cons_zero, Option.some.injEq] at h
    subst h
    obtain ⟨r, h1, _⟩ := befGo_app ops (acc ++ [befOne acc x])
    simp only [befGo, h1, Nat.add_zero, List.append_assoc, List.singleton_append, List.take_left]
    rw [List.getElem?_append_right (Nat.le_refl _), Nat.sub_self]
    rfl
  | x :: ops, acc, k + 1, o, h => by
    have := befGo_get ops (acc ++ [befOne acc x]) k o (by simpa using h)
    rw [show (acc ++ [befOne acc x]).length + k = acc.length + (k + 1) by simp; omega] at this
    exact this

theorem bef_len (all : List Oper) : (befores all).length = all.length := by
  obtain ⟨r, h1, h2⟩ := befGo_app all []
  unfold befores
  rw [h1]; simpa using h2

/-- i comes before j. -/
def Bef (b : List (List Bool)) (j i : Nat) : Prop := (b.getD j []).getD i false = true

theorem bef_row {all : List Oper} {j : Nat} {o : Oper} (ho : all[j]? = some o) : (befores all).getD j [] = befOne ((befores all).take j) o := by
  have := befGo_get all [] j o ho
  simp only [List.length_nil, Nat.zero_add] at this
  rw [List.getD_eq_getElem?_getD]
  unfold befores
  rw [this]; rfl
theorem bef_row_len {all : List Oper} {j : Nat} {o : Oper} (ho : all[j]? = some o) : ((befores all).getD j []).length = j := by
  have hj := (List.getElem?_eq_some_iff.1 ho).1
  rw [bef_row ho, befOne, List.length_map, List.length_range, List.length_take, bef_len]
  omega

theorem bef_spec {all : List Oper} {j i : Nat} {o : Oper} (ho : all[j]? = some o) (hedge : ∀ e ∈ o.after.toList, Region.binds .any e = true → e.on < j) (h : Bef (befores all) j i) :
    i < j ∧ ∃ e ∈ o.after.toList, Region.binds .any e = true ∧ (e.on = i ∨ (e.on < j ∧ Bef (befores all) e.on i)) := by
  have hj := (List.getElem?_eq_some_iff.1 ho).1
  unfold Bef at h
  rw [bef_row ho, befOne, List.getD_eq_getElem?_getD, List.getElem?_map] at h
  have hlen : ((befores all).take j).length = j := by rw [List.length_take, bef_len]; omega
  rw [hlen] at h
  rcases Nat.lt_or_ge i j with hi | hi
  · refine ⟨hi, ?_⟩
    rw [List.getElem?_range hi] at h
    simp only [Option.map_some, Option.getD_some, List.any_eq_true] at h
    obtain ⟨e, he, h⟩ := h
    unfold befEdge at h
    simp only [Bool.and_eq_true, Bool.or_eq_true, beq_iff_eq] at h
    obtain ⟨h1, h2⟩ := h
    refine ⟨e, he, h1, ?_⟩
    rcases h2 with h2 | h2
    · exact .inl h2
    · refine .inr ⟨hedge e he h1, ?_⟩
      unfold Bef
      have hlt := hedge e he h1
      rw [List.getD_eq_getElem?_getD (l := (befores all).take j), List.getElem?_take, if_pos hlt, ← List.getD_eq_getElem?_getD] at h2
      exact h2
  · rw [List.getElem?_eq_none (by simpa using hi)] at h
    cases h

/-! ### What the static look says -/
theorem statGo_get {all : Array Oper} : ∀ (ops prev : List Oper) (j : Nat) (bs : List (List Bool)) (k : Nat) (o : Oper), statGo all prev j ops bs = true → ops[k]? = some o → ∃ bj, bs[k]? = some bj ∧ statOne all (prev ++ ops.take k) (j + k) o bj = true
  | [], prev, j, bs, k, o, _, ho => by simp at ho
  | x :: ops, prev, j, [], k, o, h, _ => by simp [statGo] at h
  | x :: ops, prev, j, bj :: bs, 0, o, h, ho => by
    simp only [statGo, Bool.and_eq_true] at h
    simp only [List.getElem?_cons_zero, Option.some.injEq] at ho
    subst ho
    exact ⟨bj, rfl, by simpa using h.1⟩
  | x :: ops, prev, j, bj :: bs, k + 1, o, h, ho => by
    simp only [statGo, Bool.and_eq_true] at h
    obtain ⟨b', h1, h2⟩ := statGo_get ops (prev ++ [x]) (j + 1) bs k o h.2 (by simpa using ho)
    refine ⟨b', by simpa using h1, ?_⟩
    simpa [Nat.add_assoc, Nat.add_comm 1 k] using h2
theorem apartRow_get {all : Array Oper} {oj : Oper} : ∀ (ops : List Oper) (bs : List Bool) (k : Nat) (o : Oper), apartRow all oj ops bs = true → ops[k]? = some o → bs.getD k false = false → Oper.apart all o oj = true ∧ Oper.apart all oj o = true
  | [], bs, k, o, _, ho, _ => by simp at ho
  | x :: ops, [], k, o, h, _, _ => by simp [apartRow] at h
  | x :: ops, b :: bs, 0, o, h, ho, hb => by
    simp only [List.getElem?_cons_zero, Option.some.injEq] at ho
    subst ho
    simp at hb
    subst hb
    simp only [apartRow, Bool.and_eq_true] at h
    exact ⟨h.1.1, h.1.2⟩
  | x :: ops, b :: bs, k + 1, o, h, ho, hb => by
    have hrest : apartRow all oj ops bs = true := by
      cases b
      · simp only [apartRow, Bool.and_eq_true] at h; exact h.2
      · exact h
    exact apartRow_get ops bs k o hrest (by simpa using ho) (by simpa using hb)

theorem stat_edges {all : List Oper} (h : staticOK all (befores all) = true) {j : Nat} {o : Oper} (ho : all[j]? = some o) : ∀ e ∈ o.after.toList, Region.binds .any e = true → e.on < j := by
  obtain ⟨bj, h1, h2⟩ := statGo_get all [] 0 _ j o h ho
  unfold statOne at h2
  simp only [Bool.and_eq_true, List.all_eq_true, Bool.or_eq_true, Bool.not_eq_true', decide_eq_true_eq, Nat.zero_add] at h2
  intro e he hb
  rcases h2.1.1 e he with h3 | h3
  · rw [hb] at h3; cases h3
  · exact h3
theorem stat_apart {all : List Oper} (h : staticOK all (befores all) = true) {j i : Nat} {o x : Oper} (ho : all[j]? = some o) (hx : all[i]? = some x) (hij : i < j) (hb : ¬ Bef (befores all) j i) : Oper.apart all.toArray x o = true ∧ Oper.apart all.toArray o x = true := by
  obtain ⟨bj, h1, h2⟩ := statGo_get all [] 0 _ j o h ho
  unfold statOne at h2
  simp only [Bool.and_eq_true] at h2
  refine apartRow_get _ bj i x h2.2 ?_ ?_
  · rw [List.nil_append, List.getElem?_take, if_pos hij]; exact hx
  · unfold Bef at hb
    rw [List.getD_eq_getElem?_getD (l := befores all), h1] at hb
    simpa using hb

/-! ### What the look at the places says -/
theorem disj_spec : ∀ {a b : List Nat}, disj a b = true → ∀ x ∈ a, x ∉ b
  | [], b, _, x, hx => by cases hx
  | y :: a, b, h, x, hx => by
    obtain ⟨h1, h2⟩ := andB_true h
    rcases List.mem_cons.1 hx with rfl | hx
    · have hm : memN x b = false := by
        cases hm : memN x b with
        | false => rfl
        | true => rw [hm] at h1; cases h1
      have : ∀ (l : List Nat), memN x l = false → x ∉ l := by
        intro l
        induction l with
        | nil => intro _ h; cases h
        | cons y l ih =>
          intro hl hmem
          obtain ⟨k1, k2⟩ := orB_false hl
          rcases List.mem_cons.1 hmem with rfl | hmem
          · have : ∀ n, eqb n n = true := by intro n; induction n with | zero => rfl | succ n ih => exact ih
            rw [this] at k1; cases k1
          · exact ih k2 hmem
      exact this b hm
    · exact disj_spec h2 x hx
theorem dynRow_get {f : Foot} : ∀ (gs : List Foot) (bs : List Bool) (k : Nat) (g : Foot), dynRow f gs bs = true → gs[k]? = some g → bs.getD k false = false → footOK g f = true
  | [], bs, k, g, _, hg, _ => by simp at hg
  | x :: gs, [], k, g, h, _, _ => by simp [dynRow] at h
  | x :: gs, b :: bs, 0, g, h, hg, hb => by
    simp only [List.getElem?_cons_zero, Option.some.injEq] at hg
    subst hg
    simp at hb
    subst hb
    exact (andB_true h).1
  | x :: gs, b :: bs, k + 1, g, h, hg, hb => by
    have hrest : dynRow f gs bs = true := by
      cases b
      · exact (andB_true h).2
      · exact h
    exact dynRow_get gs bs k g hrest (by simpa using hg) (by simpa using hb)
theorem dynGo_get : ∀ (fs prev : List Foot) (bs : List (List Bool)) (k : Nat) (f : Foot), dynGo prev fs bs = true → fs[k]? = some f → ∃ bj, bs[k]? = some bj ∧ dynRow f (prev ++ fs.take k) bj = true
  | [], prev, bs, k, f, _, hf => by simp at hf
  | x :: fs, prev, [], k, f, h, _ => by simp [dynGo] at h
  | x :: fs, prev, bj :: bs, 0, f, h, hf => by
    simp only [List.getElem?_cons_zero, Option.some.injEq] at hf
    subst hf
    exact ⟨bj, rfl, by simpa using (andB_true h).1⟩
  | x :: fs, prev, bj :: bs, k + 1, f, h, hf => by
    obtain ⟨b', h1, h2⟩ := dynGo_get fs (prev ++ [x]) bs k f (andB_true h).2 (by simpa using hf)
    exact ⟨b', by simpa using h1, by simpa using h2⟩

theorem dyn_foot {all : List Oper} {es : List Eff} (h : dynOK ((es.map Eff.f).reverse ++ []) (befores all) = true) {j i : Nat} {e f : Eff} (he : es[j]? = some e) (hf : es[i]? = some f) (hij : i < j) (hb : ¬ Bef (befores all) j i) : footOK f.f e.f = true := by
  unfold dynOK at h
  rw [List.append_nil, List.reverse_reverse] at h
  obtain ⟨bj, h1, h2⟩ := dynGo_get _ [] _ j e.f h (by rw [List.getElem?_map, he]; rfl)
  refine dynRow_get _ bj i f.f h2 ?_ ?_
  · rw [List.nil_append, List.getElem?_take, if_pos hij, List.getElem?_map, hf]; rfl
  · unfold Bef at hb
    rw [List.getD_eq_getElem?_getD (l := befores all), h1] at hb
    simpa using hb

/-- From here on each operation comes after all in front of it. -/
theorem freeM_spec {b : List (List Bool)} {j : Nat} (h1 : freeM b ≤ j) (h2 : j < b.length) : ∀ x ∈ b.getD j [], x = true := by
  have hsplit := List.takeWhile_append_dropWhile (p := fun x : List Bool => x.all id) (l := b.reverse)
  have hj : j < b.reverse.length := by simpa using h2
  have hget : b.getD j [] = b.reverse.getD (b.length - 1 - j) [] := by
    rw [List.getD_eq_getElem?_getD, List.getD_eq_getElem?_getD, List.getElem?_reverse (by omega)]
    congr 2
    omega
  have hl : (b.reverse.takeWhile fun x : List Bool => x.all id).length + freeM b = b.length := by
    have := congrArg List.length hsplit
    simp only [List.length_append, List.length_reverse] at this
    exact this
  have hmem : b.reverse.getD (b.length - 1 - j) [] ∈ b.reverse.takeWhile fun x : List Bool => x.all id := by
    have hlt : b.length - 1 - j < (b.reverse.takeWhile fun x : List Bool => x.all id).length := by omega
    have hg : b.reverse[b.length - 1 - j]? = (b.reverse.takeWhile fun x : List Bool => x.all id)[b.length - 1 - j]? := by
      conv => lhs; rw [← hsplit]
      rw [List.getElem?_append_left hlt]
    rw [List.getD_eq_getElem?_getD, hg, List.getElem?_eq_getElem hlt]
    exact List.getElem_mem _
  have hall : ∀ (l : List (List Bool)) x, x ∈ l.takeWhile (fun x : List Bool => x.all id) → x.all id = true := by
    intro l
    induction l with
    | nil => intro x hx; simp at hx
    | cons y l ih =>
      intro x hx
      simp only [List.takeWhile_cons] at hx
      split at hx
      · rename_i hy
        rcases List.mem_cons.1 hx with rfl | hx
        · exact hy
        · exact ih x hx
      · cases hx
  have := hall _ _ hmem
  rw [hget]
  intro x hx
  exact (List.all_eq_true.1 this) x hx
theorem freeM_bef {all : List Oper} {j i : Nat} {o : Oper} (ho : all[j]? = some o) (hm : freeM (befores all) ≤ j) (hij : i < j) : Bef (befores all) j i := by
  have hj := (List.getElem?_eq_some_iff.1 ho).1
  have hall := freeM_spec hm (by rw [bef_len]; exact hj)
  have hlen := bef_row_len ho
  unfold Bef
  rw [List.getD_eq_getElem?_getD (l := (befores all).getD j []), List.getElem?_eq_getElem (by omega)]
  exact hall _ (List.getElem_mem _)
theorem freeM_le (all : List Oper) : freeM (befores all) ≤ all.length := by
  have hsplit := List.takeWhile_append_dropWhile (p := fun x : List Bool => x.all id) (l := (befores all).reverse)
  have := congrArg List.length hsplit
  simp only [List.length_append, List.length_reverse, bef_len] at this
  unfold freeM
  omega

end Go.Rf
