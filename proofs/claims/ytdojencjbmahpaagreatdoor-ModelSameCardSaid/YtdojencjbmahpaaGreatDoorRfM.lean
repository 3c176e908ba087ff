/-
  THE SYMBOLIC EXECUTOR, part 22: a region whose order is open, at the machine.
-/
import Derived.Test.YtdojencjbmahpaaGreatDoorRfL
set_option linter.unusedVariables false
set_option linter.unusedSimpArgs false
namespace Go.Rf

theorem takeL_eq {α : Type} : ∀ (n : Nat) (l : List α), takeL n l = l.take n
  | 0, l => by simp [takeL]
  | n + 1, [] => by simp [takeL]
  | n + 1, x :: l => by simp [takeL, takeL_eq n l]
theorem dropL_eq {α : Type} : ∀ (n : Nat) (l : List α), dropL n l = l.drop n
  | 0, l => by simp [dropL]
  | n + 1, [] => by simp [dropL]
  | n + 1, x :: l => by simp [dropL, dropL_eq n l]
theorem nones_length : ∀ n, (nones n).length = n
  | 0 => rfl
  | n + 1 => congrArg (· + 1) (nones_length n)
theorem nones_get : ∀ (n i : Nat) (e : Ent), (nones n)[i]? = some e → e = .none
  | 0, i, e, h => by simp [nones] at h
  | n + 1, 0, e, h => by simp [nones] at h; exact h.symm
  | n + 1, i + 1, e, h => nones_get n i e (by simpa [nones] using h)

section
variable {P : Program}

/-- New places are reserved; the machine has drawn. -/
theorem reserve {w : World} {S : Nat → Prop} {ρ : Reg} {s : St} {a : Act} (hs : RS w S ρ s a) (m : Nat) :
    ∃ ρ', RS { w with drawn := w.drawn + 1 } S ρ' ⟨s.T, s.H ++ nones m⟩ a ∧ Goes w S ρ s.H { w with drawn := w.drawn + 1 } S ρ' (s.H ++ nones m) s.H.length := by
  have hlt : ∀ q, q < s.H.length → (fun q => if q < s.H.length then ρ q else ⟨0, 0, 0, 0⟩ : Reg) q = ρ q := fun q hq => by simp [hq]
  have hN : Newer ρ (fun q => if q < s.H.length then ρ q else ⟨0, 0, 0, 0⟩) s.H.length := fun q hq => .inl (hlt q hq)
  have hS : Later S S w { w with drawn := w.drawn + 1 } := fun k hk => ⟨hk, rfl⟩
  have hget : ∀ q e, (s.H ++ nones m)[q]? = some e → (q < s.H.length ∧ s.H[q]? = some e) ∨ (s.H.length ≤ q ∧ e = .none) := by
    intro q e h
    rcases Nat.lt_or_ge q s.H.length with hq | hq
    · rw [List.getElem?_append_left hq] at h; exact .inl ⟨hq, h⟩
    · rw [List.getElem?_append_right hq] at h; exact .inr ⟨hq, nones_get _ _ _ h⟩
  have hown : ∀ k, Own (fun q => if q < s.H.length then ρ q else ⟨0, 0, 0, 0⟩) (s.H ++ nones m) k → Own ρ s.H k := by
    rintro k ⟨p, e, he, hl, hk⟩
    rcases hget p e he with ⟨h1, h2⟩ | ⟨_, rfl⟩
    · exact ⟨p, e, h2, (live_congr (hlt p h1)).1 hl, by rw [← hk]; simp only [h1, if_true]⟩
    · exact hl.elim
  refine ⟨fun q => if q < s.H.length then ρ q else ⟨0, 0, 0, 0⟩, ⟨hs.size, ?_, ⟨?_, ?_, ?_⟩, hs.defers⟩, ⟨rfl, rfl, rfl, Nat.le_refl _, fun _ _ _ => rfl, fun k hk => .inl (hown k hk), fun _ h => h, fun _ h => .inl h, by simp, hN⟩⟩
  · intro i x v hx hv
    exact (hs.tmp i x v hx hv).mono hS (by simp) hN
  · intro q e he
    rcases hget q e he with ⟨h1, h2⟩ | ⟨h1, rfl⟩
    · exact (hs.mem.ent q e h2).mono (hlt q h1) (fun _ => rfl) hS (by simp) hN
    · show (if q < s.H.length then ρ q else ⟨0, 0, 0, 0⟩ : Loc).ver = 0
      rw [if_neg (by omega)]
  · intro q r e f hq hr hlq hlr hne
    rcases hget q e hq with ⟨h1, h2⟩ | ⟨_, rfl⟩
    · rcases hget r f hr with ⟨h3, h4⟩ | ⟨_, rfl⟩
      · have := hs.mem.apart q r e f h2 h4 ((live_congr (hlt q h1)).1 hlq) ((live_congr (hlt r h3)).1 hlr) hne
        simpa only [h1, h3, if_true] using this
      · exact hlr.elim
    · exact hlq.elim
  · intro k hk
    exact ⟨(hs.mem.stab k hk).1, fun ho => (hs.mem.stab k hk).2 (hown k ho)⟩

/-- The operations that come after all others, one by one. -/
theorem tail_any {te : TE} (hte : TEok P te) {Γ : GE} (hΓ : Sound P Γ) {all : List Oper} (hst : staticOK all (befores all) = true) {K : Kont} {Q : Exit → Act → World → Prop} :
    ∀ (rest pre : List Oper) {w : World} {S : Nat → Prop} {ρ : Reg} {s : St} {a : Act} (listed : Array Bool) (fuel : Nat), all = pre ++ rest → freeM (befores all) ≤ pre.length → listed.size = all.length →
    (∀ k, k < all.length → listed.getD k false = decide (k < pre.length)) → rest.length ≤ fuel → RS w S ρ s a → wSeq te Γ all rest s K →
    (∀ w' S' ρ' s' a', RS w' S' ρ' s' a' → Goes w S ρ s.H w' S' ρ' s'.H s.H.length → K s' → Q .normal a' w') → wpAny P .any all.toArray Q fuel listed a w := by
  intro rest
  have hgetD : ∀ (listed : Array Bool) (k : Nat) (d : Bool), k < listed.size → listed.getD k d = listed.getD k false := by
    intro listed k d hk
    simp [Array.getD, hk]
  induction rest with
  | nil =>
    intro pre w S ρ s a listed fuel ha hm hsz hL hfuel hs hw hn
    have hq : Q .normal a w := hn w S ρ s a hs (Goes.refl w S ρ s.H (Nat.le_refl _)) hw
    have hno : ∀ j, j ∉ Region.ready .any all.toArray listed := by
      intro j hj
      obtain ⟨h1, o, ho, _⟩ := mem_ready.1 hj
      have hjlt : j < all.length := by
        have := (Array.getElem?_eq_some_iff.1 ho).1
        simpa using this
      rw [hgetD _ _ _ (by omega), hL j hjlt] at h1
      simp at h1
      rw [ha] at hjlt
      simp at hjlt
      omega
    have hnil : Region.ready .any all.toArray listed = [] := List.eq_nil_iff_forall_not_mem.2 hno
    cases fuel with
    | zero => exact ⟨hnil, hq⟩
    | succ fuel => exact ⟨fun _ => hq, fun i hi => absurd hi (hno i)⟩
  | cons o rest ih =>
    intro pre w S ρ s a listed fuel ha hm hsz hL hfuel hs hw hn
    cases fuel with
    | zero => simp at hfuel
    | succ fuel =>
      have hlen : pre.length < all.length := by rw [ha]; simp
      have hget : all[pre.length]? = some o := by rw [ha, List.getElem?_append_right (Nat.le_refl _), Nat.sub_self]; rfl
      have hgetA : all.toArray[pre.length]? = some o := by simpa using hget
      have hedge := stat_edges hst hget
      have hready : pre.length ∈ Region.ready .any all.toArray listed := by
        refine mem_ready.2 ⟨?_, o, hgetA, fun e he hb => ?_⟩
        · rw [hgetD _ _ _ (by omega), hL _ hlen]; simp
        · have := hedge e (by simpa using he) hb
          rw [hL _ (by omega)]; simpa using this
      refine ⟨fun h => (by rw [h] at hready; cases hready), fun i hi => ?_⟩
      obtain ⟨h1, oi, hoi, hall⟩ := mem_ready.1 hi
      have hoi' : all[i]? = some oi := by simpa using hoi
      have hilt : i < all.length := (List.getElem?_eq_some_iff.1 hoi').1
      rw [hgetD _ _ _ (by omega), hL i hilt] at h1
      have hge : pre.length ≤ i := by simpa using h1
      have hi_eq : i = pre.length := by
        rcases Nat.lt_or_ge pre.length i with h | h
        · exfalso
          have hb := freeM_bef (all := all) hoi' (by omega) h
          obtain ⟨_, e, he, hbind, h2⟩ := bef_spec hoi' (stat_edges hst hoi') hb
          have hlist := hall e (by simpa using he) hbind
          have helt := stat_edges hst hoi' e he hbind
          rw [hL e.on (by omega)] at hlist
          have hlt2 : e.on < pre.length := by simpa using hlist
          rcases h2 with h2 | ⟨_, h2⟩
          · omega
          · obtain ⟨oe, hoe⟩ : ∃ oe, all[e.on]? = some oe := ⟨_, List.getElem?_eq_getElem (by omega)⟩
            have := (bef_spec hoe (stat_edges hst hoe) h2).1
            omega
        · omega
      subst hi_eq
      simp only [wSeq] at hw
      have key := wGuard_sound hte hΓ hs o hw (next := wpAny P .any all.toArray Q fuel (listed.setIfInBounds pre.length true)) (Q := Q) (fun w' S' ρ' s' a' hs' hg' hk => by
        refine ih (pre ++ [o]) (listed.setIfInBounds pre.length true) fuel (by rw [ha]; simp) (by simp; omega) (by simpa using hsz) ?_ (by simp at hfuel; omega) hs' hk ?_
        · intro k hk'
          by_cases hkp : pre.length = k
          · subst hkp; simp [show pre.length < listed.size by omega]
          · rw [getD_set_ne false hkp, hL k hk']
            simp only [List.length_append, List.length_singleton]
            congr 1
            simp; omega
        · intro w'' S'' ρ'' s'' a'' hs'' hg'' hk''
          exact hn w'' S'' ρ'' s'' a'' hs'' (hg'.trans (hg''.mono hg'.len)) hk'')
      unfold wpStep at key
      unfold wpOp
      rw [hgetA]
      exact key

/-- What comes before an operation that is ready has been. -/
theorem bef_listed {all : List Oper} (hst : staticOK all (befores all) = true) {listed : Array Bool} (hdn : ∀ (j : Nat) (o : Oper), listed.getD j false = true → all[j]? = some o → ∀ e ∈ o.after.toList, Region.binds .any e = true → listed.getD e.on false = true) :
    ∀ (n j i : Nat) (o : Oper), j ≤ n → all[j]? = some o → (∀ e ∈ o.after.toList, Region.binds .any e = true → listed.getD e.on false = true) → Bef (befores all) j i → listed.getD i false = true := by
  intro n
  induction n with
  | zero =>
    intro j i o hj ho he hb
    have := (bef_spec ho (stat_edges hst ho) hb).1
    omega
  | succ n ih =>
    intro j i o hj ho he hb
    obtain ⟨_, e, hm, hbind, h2⟩ := bef_spec ho (stat_edges hst ho) hb
    have hl := he e hm hbind
    rcases h2 with rfl | ⟨h3, h4⟩
    · exact hl
    · have hjlt := (List.getElem?_eq_some_iff.1 ho).1
      obtain ⟨oe, hoe⟩ : ∃ oe, all[e.on]? = some oe := ⟨_, List.getElem?_eq_getElem (by omega)⟩
      exact ih e.on i oe (by omega) hoe (hdn e.on oe hl hoe) h4

theorem draw_sound {te : TE} (hte : TEok P te) {Γ : GE} (hΓ : Sound P Γ) (hmix : P.follows .mixedOrders = true) {id : Nat} {ops : Array Oper} {w : World} {S : Nat → Prop} {ρ : Reg} {s : St} {a : Act} {K : Kont} {Q : Exit → Act → World → Prop}
    (hw : wDraw te Γ ops.toList s K) (hs : RS w S ρ s a) (hn : ∀ w' S' ρ' s' a', RS w' S' ρ' s' a' → Goes w S ρ s.H w' S' ρ' s'.H s.H.length → K s' → Q .normal a' w') : (Code.region id ops true).wp P Q a w := by
  obtain ⟨all⟩ := ops
  simp only at hw
  unfold wDraw wDrawM at hw
  obtain ⟨hst, hw⟩ := ifB_false hw
  obtain ⟨es, hv, hk⟩ := dr_valid hte hΓ _ _ _ _ hw
  unfold kDraw at hk
  obtain ⟨hdyn, hk⟩ := ifB_false hk
  rw [dropL_eq] at hk
  rw [takeL_eq] at hv
  have hmle := freeM_le all
  generalize hm : freeM (befores all) = m at *
  obtain ⟨ρ0, hs0, hg0⟩ := reserve hs m
  have hesl : es.length = m := by rw [hv.len, List.length_take]; omega
  generalize hs0e : (⟨s.T, s.H ++ nones m⟩ : St) = s0 at *
  have hs0H : s.H ++ nones m = s0.H := by rw [← hs0e]
  rw [hs0H] at hg0
  have hok := hv.ok
  have hops : ∀ (k : Nat) (e : Eff), es[k]? = some e → ∃ o, all[k]? = some o ∧ Local P te Γ all o (stOf es (fun j => decide (j < 0 + k)) 0 s0) e := by
    intro k e he
    have hk := (List.getElem?_eq_some_iff.1 he).1
    obtain ⟨o, ho⟩ : ∃ o, all[k]? = some o := ⟨_, List.getElem?_eq_getElem (by omega)⟩
    refine ⟨o, ho, hv.at 0 k o e ?_ he⟩
    rw [List.getElem?_take, if_pos (by omega)]; exact ho
  refine wp_region_any hmix ?_
  show wpAny P .any all.toArray Q all.length (Array.replicate all.length false) a { w with drawn := w.drawn + 1 }
  generalize hw1 : ({ w with drawn := w.drawn + 1 } : World) = w1 at *
  -- all orders
  have main : ∀ (c : Nat) (listed : Array Bool) (a : Act) (w' : World) (S' : Nat → Prop) (ρ' : Reg) (fuel : Nat), listed.size = all.length → listed.toList.count false ≤ c → c ≤ fuel →
      (∀ k, m ≤ k → listed.getD k false = false) →
      (∀ (j : Nat) (o : Oper), listed.getD j false = true → all[j]? = some o → ∀ e ∈ o.after.toList, Region.binds .any e = true → listed.getD e.on false = true) →
      RS w' S' ρ' (stOf es (fun k => listed.getD k false) 0 s0) a → Goes w1 S ρ0 s0.H w' S' ρ' (stOf es (fun k => listed.getD k false) 0 s0).H s0.H.length →
      wpAny P .any all.toArray Q fuel listed a w' := by
    intro c
    have hgetD : ∀ (listed : Array Bool) (k : Nat) (d : Bool), k < listed.size → listed.getD k d = listed.getD k false := by
      intro listed k d hk
      simp [Array.getD, hk]
    have fin : ∀ (listed : Array Bool) (a : Act) (w' : World) (S' : Nat → Prop) (ρ' : Reg) (fuel : Nat), listed.size = all.length → all.length - m ≤ fuel → (∀ k, m ≤ k → listed.getD k false = false) → (∀ k, k < m → listed.getD k false = true) →
        RS w' S' ρ' (stOf es (fun k => listed.getD k false) 0 s0) a → Goes w1 S ρ0 s0.H w' S' ρ' (stOf es (fun k => listed.getD k false) 0 s0).H s0.H.length → wpAny P .any all.toArray Q fuel listed a w' := by
      intro listed a w' S' ρ' fuel hsz hfuel hge hlt hrs hg
      have hst' : stOf es (fun k => listed.getD k false) 0 s0 = stOf es (fun _ => true) 0 s0 := st_congr es _ _ 0 s0 (fun k hk => by rw [Nat.zero_add]; exact hlt k (by omega))
      rw [hst'] at hrs hg
      refine tail_any hte hΓ hst (all.drop m) (all.take m) listed fuel (List.take_append_drop m all).symm (by rw [hm, List.length_take]; omega) hsz ?_ (by rw [List.length_drop]; exact hfuel) hrs hk ?_
      · intro k hk'
        rw [List.length_take, Nat.min_eq_left hmle]
        rcases Nat.lt_or_ge k m with h | h
        · rw [hlt k h]; simpa using h
        · rw [hge k h]; simpa using h
      · intro w'' S'' ρ'' s'' a'' hs'' hg'' hk''
        refine hn w'' S'' ρ'' s'' a'' hs'' ?_ hk''
        have h1 := hg.trans (hg''.mono hg.len)
        have hle : s.H.length ≤ s0.H.length := by rw [← hs0H]; simp
        exact hg0.trans (h1.mono hle)
    induction c with
    | zero =>
      intro listed a w' S' ρ' fuel hsz hc hfuel hge hdn hrs hg
      have hall : ∀ k, k < all.length → listed.getD k false = true := by
        intro k hk'
        have h0 : listed.toList.count false = 0 := by omega
        rw [List.count_eq_zero] at h0
        have hkl : k < listed.size := by omega
        have : listed[k] ≠ false := fun h => h0 (by rw [← h]; exact Array.mem_toList_iff.2 (Array.getElem_mem hkl))
        simp [Array.getD, hkl]
        simpa using this
      refine fin listed a w' S' ρ' fuel hsz ?_ hge (fun k hk' => hall k (by omega)) hrs hg
      rcases Nat.lt_or_ge m all.length with h | h
      · have := hall m h; rw [hge m (Nat.le_refl _)] at this; cases this
      · omega
    | succ c ih =>
      intro listed a w' S' ρ' fuel hsz hc hfuel hge hdn hrs hg
      by_cases hex : ∀ k, k < m → listed.getD k false = true
      · refine fin listed a w' S' ρ' fuel hsz ?_ hge hex hrs hg
        have hcnt : all.length - m ≤ listed.toList.count false := by
          have h1 : listed.toList = listed.toList.take m ++ listed.toList.drop m := (List.take_append_drop m _).symm
          have h2 : listed.toList.drop m = List.replicate (all.length - m) false := by
            apply List.ext_getElem?
            intro k
            rw [List.getElem?_drop, List.getElem?_replicate]
            split
            · rename_i hk'
              have hkl : m + k < listed.size := by omega
              have := hge (m + k) (by omega)
              simp [Array.getD, hkl] at this
              simp [hkl, this]
            · rename_i hk'
              rw [List.getElem?_eq_none (by simp; omega)]
          rw [h1, h2, List.count_append, List.count_replicate_self]
          omega
        omega
      · obtain ⟨k0, hk0⟩ : ∃ k0, ¬ (k0 < m → listed.getD k0 false = true) := Classical.not_forall.1 hex
        have hk0m : k0 < m := Classical.not_imp.1 hk0 |>.1
        have hk0f : listed.getD k0 false = false := by
          have := (Classical.not_imp.1 hk0).2
          simpa using this
        cases fuel with
        | zero => omega
        | succ fuel =>
          -- the first one that is not yet done is ready
          have hfirst : ∃ k, k < m ∧ listed.getD k false = false ∧ ∀ j, j < k → listed.getD j false = true := by
            have : ∀ n, (∃ k, k < n ∧ listed.getD k false = false) → ∃ k, k < n ∧ listed.getD k false = false ∧ ∀ j, j < k → listed.getD j false = true := by
              intro n
              induction n with
              | zero => rintro ⟨k, hk', _⟩; omega
              | succ n ihn =>
                intro hex'
                by_cases hl : ∃ k, k < n ∧ listed.getD k false = false
                · obtain ⟨k, h1, h2, h3⟩ := ihn hl
                  exact ⟨k, by omega, h2, h3⟩
                · obtain ⟨k, h1, h2⟩ := hex'
                  refine ⟨k, h1, h2, fun j hj => ?_⟩
                  cases hjv : listed.getD j false with
                  | true => rfl
                  | false => exact absurd ⟨j, by omega, hjv⟩ hl
            exact this m ⟨k0, hk0m, hk0f⟩
          obtain ⟨kf, hkf1, hkf2, hkf3⟩ := hfirst
          obtain ⟨of', hof⟩ : ∃ o, all[kf]? = some o := ⟨_, List.getElem?_eq_getElem (by omega)⟩
          have hready : kf ∈ Region.ready .any all.toArray listed := by
            refine mem_ready.2 ⟨?_, of', by simpa using hof, fun e he hb => ?_⟩
            · rw [hgetD _ _ _ (by omega)]; exact hkf2
            · exact hkf3 e.on (stat_edges hst hof e (by simpa using he) hb)
          refine ⟨fun h => (by rw [h] at hready; cases hready), fun i hi => ?_⟩
          obtain ⟨h1, oi, hoi, hall⟩ := mem_ready.1 hi
          have hoi' : all[i]? = some oi := by simpa using hoi
          have hilt : i < all.length := (List.getElem?_eq_some_iff.1 hoi').1
          rw [hgetD _ _ _ (by omega)] at h1
          have hall' : ∀ e ∈ oi.after.toList, Region.binds .any e = true → listed.getD e.on false = true := fun e he hb => hall e (by simpa using he) hb
          have him : i < m := by
            rcases Nat.lt_or_ge i m with h | h
            · exact h
            · have hb := freeM_bef (all := all) hoi' (by rw [hm]; exact h) (show k0 < i by omega)
              have := bef_listed hst hdn i i k0 oi (Nat.le_refl _) hoi' hall' hb
              rw [hk0f] at this; cases this
          obtain ⟨e, he⟩ : ∃ e, es[i]? = some e := ⟨_, List.getElem?_eq_getElem (by omega)⟩
          obtain ⟨o2, ho2, hloc⟩ := hops i e he
          rw [hoi'] at ho2
          cases ho2
          -- those whose order is open don't meet
          have hpair : ∀ (k : Nat) (f : Eff) (ok : Oper), es[k]? = some f → all[k]? = some ok → k ≠ i → (decide (k < i) ≠ listed.getD k false) →
              Oper.apart all.toArray ok oi = true ∧ (∀ x ∈ f.f.w, x ∉ e.f.w) ∧ (∀ x ∈ f.f.w, x ∉ e.f.r) := by
            intro k f ok hf hok' hne hd
            rcases Nat.lt_or_gt_of_ne hne with hlt | hgt
            · have hkl : listed.getD k false = false := by
                cases hv' : listed.getD k false with
                | false => rfl
                | true => rw [hv'] at hd; simp [hlt] at hd
              have hnb : ¬ Bef (befores all) i k := fun hb => by
                have := bef_listed hst hdn i i k oi (Nat.le_refl _) hoi' hall' hb
                rw [hkl] at this; cases this
              have hap := stat_apart hst hoi' hok' hlt hnb
              have hft := dyn_foot hdyn he hf hlt hnb
              obtain ⟨f1, f2⟩ := andB_true hft
              obtain ⟨f3, f4⟩ := andB_true f2
              exact ⟨hap.1, disj_spec f1, disj_spec f3⟩
            · have hkl : listed.getD k false = true := by
                cases hv' : listed.getD k false with
                | true => rfl
                | false => rw [hv'] at hd; simp [show ¬ k < i by omega] at hd
              have hnb : ¬ Bef (befores all) k i := fun hb => by
                have := bef_listed hst hdn k k i ok (Nat.le_refl _) hok' (hdn k ok hkl hok') hb
                rw [h1] at this; cases this
              have hap := stat_apart hst hok' hoi' hgt hnb
              have hft := dyn_foot hdyn hf he hgt hnb
              obtain ⟨f1, f2⟩ := andB_true hft
              obtain ⟨f3, f4⟩ := andB_true f2
              exact ⟨hap.2, fun x hx hx' => disj_spec f1 x hx' hx, fun x hx hx' => disj_spec f4 x hx' hx⟩
          have hag : Agree (oi.looksAt all.toArray) (e.f.w ++ e.f.r) (stOf es (fun j => decide (j < 0 + i)) 0 s0) (stOf es (fun k => listed.getD k false) 0 s0) := by
            refine agree_st es _ _ 0 s0 s0 ⟨rfl, rfl, fun _ _ => rfl, fun _ _ => rfl⟩ rfl hok ?_
            intro k f hf hd
            simp only [Nat.zero_add] at hd
            have hne : k ≠ i := by
              rintro rfl
              rw [h1] at hd; simp at hd
            have hkl := (List.getElem?_eq_some_iff.1 hf).1
            obtain ⟨ok, hok', hlk⟩ := hops k f hf
            obtain ⟨p1, p2, p3⟩ := hpair k f ok hf hok' hne hd
            obtain ⟨q1, q2, q3⟩ := Oper.apart_spec p1
            refine ⟨fun d hd' => q1 d (by rw [← hlk.dst]; exact hd'), fun x hx hmem => ?_⟩
            have hxw := (hok f (List.mem_of_getElem? hf)).2 x hx
            rcases List.mem_append.1 hmem with h | h
            · exact p2 _ hxw h
            · exact p3 _ hxw h
          have key := hloc.step _ hag (next := wpAny P .any all.toArray Q fuel (listed.setIfInBounds i true)) (Q := Q) hrs (fun w'' S'' ρ'' a'' hs'' hg'' => by
            have hset : ∀ k, (listed.setIfInBounds i true).getD k false = (listed.getD k false || k == i) := by
              intro k
              by_cases hki : i = k
              · subst hki; simp [show i < listed.size by omega]
              · rw [getD_set_ne false hki]
                have : (k == i) = false := by simpa using Ne.symm hki
                rw [this, Bool.or_false]
            have hmore : stOf es (fun k => (listed.setIfInBounds i true).getD k false) 0 s0 = e.app (stOf es (fun k => listed.getD k false) 0 s0) := by
              rw [← st_more es (fun k => listed.getD k false) 0 i e s0 rfl hok he (by rw [Nat.zero_add]; exact h1) ?_]
              · exact st_congr es _ _ 0 s0 (fun k _ => by simp only [Nat.zero_add]; exact hset k)
              · intro k f hf hik hkl
                rw [Nat.zero_add] at hkl
                obtain ⟨ok, hok', hlk⟩ := hops k f hf
                obtain ⟨p1, p2, p3⟩ := hpair k f ok hf hok' (by omega) (by rw [hkl]; simp [show ¬ k < i by omega])
                obtain ⟨q1, q2, q3⟩ := Oper.apart_spec p1
                refine ⟨fun x hx hfx => q2 x (by rw [← hlk.dst]; exact hfx) (by rw [← hloc.dst]; exact hx), fun x hx y hy heq => ?_⟩
                exact p2 y.1 ((hok f (List.mem_of_getElem? hf)).2 y hy) (by rw [← heq]; exact (hok e (List.mem_of_getElem? he)).2 x hx)
            refine ih (listed.setIfInBounds i true) a'' w'' S'' ρ'' fuel (by simpa using hsz) ?_ (by omega) ?_ ?_ (by rw [hmore]; exact hs'') (by rw [hmore]; exact hg.trans (hg''.mono hg.len))
            · have hil : i < listed.toList.length := by simp; omega
              have hiv : listed.toList[i] = false := by
                have hkl : i < listed.size := by omega
                simp [Array.getD, hkl] at h1
                simpa using h1
              rw [Array.toList_setIfInBounds, List.count_set hil]
              simp only [hiv]
              have hpos : 0 < listed.toList.count false := List.count_pos_iff.2 (by rw [← hiv]; exact List.getElem_mem hil)
              rw [show (if (false == false) = true then 1 else 0 : Nat) = 1 from rfl, show (if (true == false) = true then 1 else 0 : Nat) = 0 from rfl]
              omega
            · intro k hk'
              rw [hset k, hge k hk']
              simp; omega
            · intro j o' hj ho' e' he' hb
              rw [hset] at hj ⊢
              simp only [Bool.or_eq_true, beq_iff_eq] at hj ⊢
              left
              rcases hj with hj | rfl
              · exact hdn j o' hj ho' e' he' hb
              · rw [hoi'] at ho'; cases ho'
                exact hall' e' he' hb)
          unfold wpStep at key
          unfold wpOp
          rw [hoi]
          exact key
  refine main all.length (Array.replicate all.length false) a w1 S ρ0 all.length (by simp) ?_ (Nat.le_refl _) ?_ ?_ ?_ ?_
  · simp
  · intro k _
    simp [Array.getD]
  · intro j o hj
    simp [Array.getD] at hj
  · have : stOf es (fun k => (Array.replicate all.length false).getD k false) 0 s0 = s0 := by
      have : ∀ (es : List Eff) (i : Nat), stOf es (fun k => (Array.replicate all.length false).getD k false) i s0 = s0 := by
        intro es
        induction es with
        | nil => intro i; rfl
        | cons e es ih => intro i; simp only [stOf]; rw [if_neg (by simp [Array.getD])]; exact ih _
      exact this es 0
    rw [this]
    exact hs0
  · have : stOf es (fun k => (Array.replicate all.length false).getD k false) 0 s0 = s0 := by
      have : ∀ (es : List Eff) (i : Nat), stOf es (fun k => (Array.replicate all.length false).getD k false) i s0 = s0 := by
        intro es
        induction es with
        | nil => intro i; rfl
        | cons e es ih => intro i; simp only [stOf]; rw [if_neg (by simp [Array.getD])]; exact ih _
      exact this es 0
    rw [this]
    exact Goes.refl _ _ _ _ (Nat.le_refl _)

end
end Go.Rf
