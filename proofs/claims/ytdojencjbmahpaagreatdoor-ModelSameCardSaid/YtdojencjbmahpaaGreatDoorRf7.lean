/-
  THE SYMBOLIC EXECUTOR, part 7: stores, and the operations that leave the memory alone.
-/
import Derived.Test.YtdojencjbmahpaaGreatDoorRf6
import Derived.Laws.StructEq
import Derived.Laws.Small
set_option linter.unusedVariables false
set_option linter.unusedSimpArgs false
namespace Go.Rf

theorem seg_get {α : Type} (l new : List α) (o j : Nat) (h : o + new.length ≤ l.length) :
    (l.take o ++ new ++ l.drop (o + new.length))[j]? = if j < o then l[j]? else if j < o + new.length then new[j - o]? else l[j]? := by
  have hm : min o l.length = o := by omega
  simp only [List.getElem?_append, List.length_append, List.length_take, hm, List.getElem?_take, List.getElem?_drop]
  by_cases h1 : j < o
  · simp [h1, show j < o + new.length by omega]
  · by_cases h2 : j < o + new.length
    · simp [h1, h2]
    · simp only [h1, h2, if_false]
      congr 1
      omega
theorem seg_length {α : Type} (l new : List α) (o : Nat) (h : o + new.length ≤ l.length) : (l.take o ++ new ++ l.drop (o + new.length)).length = l.length := by
  simp; omega
theorem setCells_get : ∀ (as cells : List AV) (off j : Nat), off + as.length ≤ cells.length → (setCells cells off as)[j]? = if j < off then cells[j]? else if j < off + as.length then as[j - off]? else cells[j]?
  | [], cells, off, j, h => by simp [setCells]; intro h1 h2; omega
  | a :: as, cells, off, j, h => by
    simp only [setCells]
    rw [setCells_get as (cells.set off a) (off + 1) j (by simp at h ⊢; omega)]
    simp only [List.length_cons] at h ⊢
    by_cases h1 : j < off
    · simp [h1, show j < off + 1 by omega, show off ≠ j by omega]
    · by_cases h2 : j = off
      · subst h2; simp [show j < cells.length by omega]
      · by_cases h3 : j < off + 1 + as.length
        · simp [h1, show ¬ j < off + 1 by omega, h3, show j < off + (as.length + 1) by omega, show j - off = (j - (off + 1)) + 1 by omega]
        · simp [h1, show ¬ j < off + 1 by omega, h3, show ¬ j < off + (as.length + 1) by omega, show off ≠ j by omega]

section
variable {P : Program} {w : World} {S : Nat → Prop} {ρ : Reg} {H : List Ent}

theorem run_storeVar_at {t : TypeId} {i : TI} {inf : TypeInfo} {d : TypeDesc} {z : Value} (hf : TF P t i inf d z) (g o : Nat) (cur : Array Value) (ty : TypeId) (v : Value) (hs : v.cells.size = i.size)
    (hg : w.heap[g]? = some (.cells cur ty (0, 0))) (hfit : o + i.size ≤ cur.size) (h1 : ∀ u ∈ v.cells, u.oneCell' = true) :
    (storeVar t ⟨g, o, none⟩ v).run P w = .ok () (w.setRow g (cur.toList.take o ++ v.cells.toList ++ cur.toList.drop (o + v.cells.toList.length)).toArray) := by
  have := run_storeCells_at P g o ty v.cells.toList 0 cur w hg (by simpa [hs] using hfit) (fun u hu => h1 u (by simpa using hu))
  simp only [Nat.add_zero] at this
  unfold storeVar
  rw [Sem.run_bind, hf.run_size]
  simp only [Result.andThen_ok, hs, ne_eq, not_true_eq_false, if_false]
  exact this

/-- The store's own step: nothing comes back. -/
def StepU (P : Program) (w : World) (S : Nat → Prop) (ρ : Reg) (H : List Ent) (m : Sem Unit) (H' : List Ent) : Prop :=
  ∃ w' S' ρ', m.run P w = .ok () w' ∧ RH w' S' ρ' H' ∧ Goes w S ρ H w' S' ρ' H' H.length

theorem upd_self (ρ : Reg) (p : Nat) : upd ρ p (ρ p) = ρ := by funext q; unfold upd; split <;> simp_all

theorem store_var (hm : RH w S ρ H) {t : TypeId} {i : TI} {inf : TypeInfo} {d : TypeDesc} {z : Value} (hf : TF P t i inf d z) {a x : AV} {v u : Value} (hv : Rd w S ρ H.length a v) (hx : Rd w S ρ H.length x u) {out : Out}
    (he : evStore H i.size (cellsOf x) a = some out) (hc : condK out.c True) : StepU P w S ρ H (Instr.storeAt t v u) (putH H out.w) := by
  cases hcs : cellsOf x with
  | none => rw [hcs] at he; cases a <;> cases he
  | some as =>
    rw [hcs] at he
    have hcx := hx.cells hcs
    cases hv with
    | ptr _ p off A hp hver h =>
      simp only [evStore, storeP] at he
      split at he
      · rename_i cells hq
        obtain ⟨h1, h2⟩ := ifo_some he
        obtain ⟨h3, h4⟩ := andB_true h1
        have hn := lenEq_eq h3
        have hle := lenLe_le h4
        cases h2
        have hget := getD_some hq (by simp)
        have hent := hm.ent p _ hget
        obtain ⟨k0, cs, ty, k1, k2⟩ := hent
        have hA := h k0
        subst hA
        have hus : u.cells.size = i.size := by rw [hcx.1, hn]
        have hrun := run_storeVar_at (P := P) (w := w) hf (ρ p).blk off cs ty u hus k1 (by rw [k2.1]; exact hle) hcx.2.1
        have hlen : u.cells.toList.length = as.length := by simpa using hcx.1
        have hfit : off + u.cells.toList.length ≤ cs.toList.length := by
          have := k2.1
          simp only [Array.length_toList] at *
          omega
        have key := hm.fill hget (ρ p) (w.setRow (ρ p).blk (cs.toList.take off ++ u.cells.toList ++ cs.toList.drop (off + u.cells.toList.length)).toArray) (e' := .var (setCells cells off as)) (.inl rfl) rfl rfl rfl rfl (by simp)
          (fun k hk hne => setRow_other w _ k _ (hne trivial)) (fun _ => trivial) (by
            intro hS hN
            rw [upd_self] at hN ⊢
            refine ⟨k0, _, ty, setRow_heap w _ cs _ ty _ k1, ?_, ?_, ?_⟩
            · rw [List.size_toArray, seg_length _ _ _ hfit, setCells_length]; simpa using k2.1
            · intro y hy
              simp only [List.mem_toArray, List.mem_append] at hy
              rcases hy with (hy | hy) | hy
              · exact k2.2.1 y (by simpa using List.mem_of_mem_take hy)
              · exact hcx.2.1 y (by simpa using hy)
              · exact k2.2.1 y (by simpa using List.mem_of_mem_drop hy)
            · intro j b y hb hy
              rw [List.getElem?_toArray, seg_get _ _ _ _ hfit] at hy
              rw [setCells_get _ _ _ _ (by omega)] at hb
              rw [hlen] at hy
              split at hb
              · rename_i hj; rw [if_pos hj] at hy; exact (k2.2.2 j b y hb (by simpa using hy)).mono hS (Nat.le_refl _) hN
              · rename_i hj
                rw [if_neg hj] at hy
                split at hb
                · rename_i hj2; rw [if_pos hj2] at hy; exact (hcx.2.2 _ b y hb (by simpa using hy)).mono hS (Nat.le_refl _) hN
                · rename_i hj2; rw [if_neg hj2] at hy; exact (k2.2.2 j b y hb (by simpa using hy)).mono hS (Nat.le_refl _) hN)
        rw [upd_self] at key
        exact ⟨_, S, ρ, (show (storeVar t _ _).run P w = _ from hrun), key.1, key.2⟩
      · cases he
    | eptr _ p ver k j A hp hver h =>
      simp only [evStore, storeE] at he
      split at he
      · rename_i cl v sz cap es hq
        obtain ⟨h1, h2⟩ := ifo_some he
        obtain ⟨h3, h4⟩ := andB_true h1
        have hn := lenEq_eq h3
        have hle := leb_le h4
        cases h2
        simp only [condK] at hc
        obtain ⟨⟨rfl, hlt⟩, _⟩ := hc
        have hget := getD_some hq (by simp)
        have hent := hm.ent p _ hget
        obtain ⟨e1, e2, e3, e4, e5, e6, e7, e8, e9⟩ := hent
        have hcap : 0 < (ρ p).cap := by omega
        have hA := h e1.symm (by omega)
        subst hA
        obtain ⟨cs, ty, k1, k2, k3, k4⟩ := e9 hcap
        have hidx : k * sz + sz ≤ (ρ p).cap * sz := by
          have := Nat.mul_le_mul_right sz (show k + 1 ≤ (ρ p).cap by omega)
          rw [Nat.succ_mul] at this
          omega
        have hus : u.cells.size = i.size := by rw [hcx.1, hn]
        have hlen : u.cells.toList.length = as.length := by simpa using hcx.1
        have hrun := run_storeVar_at (P := P) (w := w) hf (ρ p).blk (k * (ρ p).sz + j) cs ty u hus k1 (by rw [e3, k2]; omega) hcx.2.1
        have hfit : k * (ρ p).sz + j + u.cells.toList.length ≤ cs.toList.length := by
          rw [hlen, hn, Array.length_toList, k2, e3]; omega
        have hrow : es[k].length = sz := e8 _ (List.getElem_mem hlt)
        have hgk : es.getD k [] = es[k] := by simp [List.getD_eq_getElem?_getD, List.getElem?_eq_getElem hlt]
        have key := hm.fill hget (ρ p) (w.setRow (ρ p).blk (cs.toList.take (k * (ρ p).sz + j) ++ u.cells.toList ++ cs.toList.drop (k * (ρ p).sz + j + u.cells.toList.length)).toArray)
          (e' := .arr (Rf.andB cl (closedAll as)) v sz cap (es.set k (setCells (es.getD k []) j (nfs as)))) (.inl rfl) rfl rfl rfl rfl (by simp)
          (fun k hk hne => setRow_other w _ k _ (hne hcap)) (fun _ => hcap) (by
            intro hS hN
            rw [upd_self] at hN ⊢
            refine ⟨e1, e2, e3, e4, by simpa using e5, e6, e7, ?_, fun _ => ⟨_, ty, setRow_heap w _ cs _ ty _ k1, ?_, ?_, ?_⟩⟩
            · intro e he
              rcases List.mem_or_eq_of_mem_set he with he | he
              · exact e8 e he
              · rw [he, setCells_length, hgk, hrow]
            · rw [List.size_toArray, seg_length _ _ _ hfit]; simpa using k2
            · intro y hy
              simp only [List.mem_toArray, List.mem_append] at hy
              rcases hy with (hy | hy) | hy
              · exact k3 y (by simpa using List.mem_of_mem_take hy)
              · exact hcx.2.1 y (by simpa using hy)
              · exact k3 y (by simpa using List.mem_of_mem_drop hy)
            · intro i' k' e b y he hb hy
              rw [List.getElem?_toArray, seg_get _ _ _ _ hfit, hlen, e3] at hy
              have hold : ∀ (e : List AV), es[i']? = some e → e[k']? = some b → cs[i' * sz + k']? = some y → Rd (w.setRow (ρ p).blk (cs.toList.take (k * (ρ p).sz + j) ++ u.cells.toList ++ cs.toList.drop (k * (ρ p).sz + j + u.cells.toList.length)).toArray) S ρ (if Rf.andB cl (closedAll as) then 0 else H.length) b y := by
                intro e he hb hy
                have := k4 i' k' e b y he hb hy
                cases cl with
                | true =>
                  simp only [if_true] at this
                  exact this.mono hS (Nat.zero_le _) (Newer.refl _ _)
                | false => exact this.mono hS (Nat.le_refl _) hN
              by_cases hik : k = i'
              · subst hik
                rw [List.getElem?_set_self hlt] at he
                cases he
                rw [setCells_get _ _ _ _ (by rw [nfs_length, hgk, hrow]; omega), nfs_length] at hb
                have hk'lt : k' < sz := by
                  by_cases hk' : k' < sz
                  · exact hk'
                  · rw [if_neg (by omega), if_neg (by omega), hgk, List.getElem?_eq_none (by omega)] at hb
                    cases hb
                split at hb
                · rename_i hj
                  rw [if_pos (by omega)] at hy
                  exact hold es[k] (List.getElem?_eq_getElem hlt) (by rwa [hgk] at hb) (by simpa using hy)
                · rename_i hj
                  rw [if_neg (by omega)] at hy
                  split at hb
                  · rename_i hj2
                    rw [if_pos (by omega), show k * sz + k' - (k * sz + j) = k' - j by omega] at hy
                    rw [nfs_get] at hb
                    cases hb2 : as[k' - j]? with
                    | none => simp [hb2] at hb
                    | some b' =>
                      simp [hb2] at hb
                      subst hb
                      have := (hcx.2.2 _ b' y hb2 (by simpa using hy)).nf
                      cases hcl : Rf.andB cl (closedAll as) with
                      | true =>
                        have hc2 := (andB_true hcl).2
                        have := ((hcx.2.2 _ b' y hb2 (by simpa using hy)).closed1 (closedAll_get hc2 _ _ hb2)).nf
                        exact this.mono hS (Nat.zero_le _) (Newer.refl _ _)
                      | false => exact this.mono hS (Nat.le_refl _) hN
                  · rename_i hj2
                    rw [if_neg (by omega)] at hy
                    exact hold es[k] (List.getElem?_eq_getElem hlt) (by rwa [hgk] at hb) (by simpa using hy)
              · rw [List.getElem?_set_ne hik] at he
                have hk'lt : k' < sz := by
                  have := (List.getElem?_eq_some_iff.1 hb).1
                  rwa [e8 e (List.mem_of_getElem? he)] at this
                have hout : ¬ (k * sz + j ≤ i' * sz + k' ∧ i' * sz + k' < k * sz + j + as.length) := by
                  rcases Nat.lt_or_gt_of_ne hik with h5 | h5
                  · have := Nat.mul_le_mul_right sz (show k + 1 ≤ i' by omega)
                    rw [Nat.succ_mul] at this
                    omega
                  · have := Nat.mul_le_mul_right sz (show i' + 1 ≤ k by omega)
                    rw [Nat.succ_mul] at this
                    omega
                split at hy
                · exact hold e he hb (by simpa using hy)
                · split at hy
                  · omega
                  · exact hold e he hb (by simpa using hy))
        rw [upd_self] at key
        exact ⟨_, S, ρ, (show (storeVar t _ _).run P w = _ from hrun), key.1, key.2⟩
      · cases he
    | _ => cases he

end
end Go.Rf
