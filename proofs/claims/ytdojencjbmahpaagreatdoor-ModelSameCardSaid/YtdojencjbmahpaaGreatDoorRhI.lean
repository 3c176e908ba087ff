/-
  LIBRARY FUNCTIONS, part 7: slices.overlaps, the model's own entry; slices.Delete and slices.Insert as contracts.
-/
import Derived.Test.YtdojencjbmahpaaGreatDoorRhH
import Derived.Laws.LoneSync
import Derived.Lib.Overlaps
set_option linter.unusedVariables false
set_option linter.unusedSimpArgs false
namespace Go.Rf

section
variable {P : Program} {w : World} {S : Nat → Prop} {ρ : Reg} {H : List Ent}

theorem run_overlaps_own (w : World) (tS tR e : TypeId) (ht : P.underlying tS = some (.slice e)) (size : Nat) (hz : ∀ w, (Go.sizeOf e).run P w = .ok size w)
    (a b : Addr) (la ca lb cb : Nat) (hne : a.block ≠ b.block) (tA tB : TypeId) (kA kB : Nat) (hsa : w.shape? a.block = some (tA, kA)) (hkA : kA ≠ 0) (hsb : w.shape? b.block = some (tB, kB)) (hkB : kB ≠ 0)
    (hfb : w.frozen? b = false) (hfe : w.frozen? { block := b.block, off := kB } = false) :
    (Extern.SlicesOverlaps.overlaps #[tS, tS] #[tR] #[.slice (some a) la ca, .slice (some b) lb cb]).run P w = .ok (.bool false) w := by
  have hnb : (a.block != b.block) = true := by simpa using hne
  have hnb' : (a.block == b.block) = false := by simpa using hne
  change Sem.run P (α := Value) (do
    let some t := (#[tS, tS] : Array TypeId)[0]? | stuck "slices.overlaps: no parameter types"
    let .slice elem ← underlying t | stuck "slices.overlaps: slice type expected"
    let size ← sizeOf elem
    match (some a : Option Addr), (some b : Option Addr) with
    | some a, some b =>
      if la = 0 ∨ lb = 0 ∨ size = 0 then pure (Value.bool false)
      else if a.block != b.block && (← frozen a) && (← frozen b) then unsupported .addressObserved
      else do
        if a.block != b.block then do
          noView a; noView b
          if ← mayBeOne a b then return Value.bool ((← choose (.extern "sameAddr.stringBytes" 2)) == 1)
        pure (Value.bool (a.block == b.block && a.off < b.off + lb * size && b.off < a.off + la * size))
    | _, _ => pure (Value.bool false)) w = _
  by_cases h0 : la = 0 ∨ lb = 0 ∨ size = 0
  · simp [run_underlying ht, hz, h0]
  · cases kB with
    | zero => exact absurd rfl hkB
    | succ kB =>
      cases kA with
      | zero => exact absurd rfl hkA
      | succ kA =>
      cases hfa : w.frozen? a <;> cases hfe' : w.frozen? { block := a.block, off := kA + 1 } <;>
        simp [run_underlying ht, hz, h0, hnb, hnb', frozen, noView, viewAt, mayBeOne, stringish, shape, Sem.run, hsa, hsb, hfa, hfb, hfe, hfe']
theorem run_overlaps_nil (w : World) (tS tR e : TypeId) (ht : P.underlying tS = some (.slice e)) (size : Nat) (hz : ∀ w, (Go.sizeOf e).run P w = .ok size w)
    (a b : Option Addr) (la ca lb cb : Nat) (h : a = none ∨ b = none ∨ la = 0 ∨ lb = 0) :
    (Extern.SlicesOverlaps.overlaps #[tS, tS] #[tR] #[.slice a la ca, .slice b lb cb]).run P w = .ok (.bool false) w := by
  change Sem.run P (α := Value) (do
    let some t := (#[tS, tS] : Array TypeId)[0]? | stuck "slices.overlaps: no parameter types"
    let .slice elem ← underlying t | stuck "slices.overlaps: slice type expected"
    let size ← sizeOf elem
    match a, b with
    | some a, some b =>
      if la = 0 ∨ lb = 0 ∨ size = 0 then pure (Value.bool false)
      else if a.block != b.block && (← frozen a) && (← frozen b) then unsupported .addressObserved
      else do
        if a.block != b.block then do
          noView a; noView b
          if ← mayBeOne a b then return Value.bool ((← choose (.extern "sameAddr.stringBytes" 2)) == 1)
        pure (Value.bool (a.block == b.block && a.off < b.off + lb * size && b.off < a.off + la * size))
    | _, _ => pure (Value.bool false)) w = _
  cases a with
  | none => simp [run_underlying ht, hz]
  | some a => cases b with
    | none => simp [run_underlying ht, hz]
    | some b =>
      have : la = 0 ∨ lb = 0 ∨ size = 0 := by
        rcases h with h | h | h | h
        · cases h
        · cases h
        · exact .inl h
        · exact .inr (.inl h)
      simp [run_underlying ht, hz, this]

theorem overlaps_sound {f : FuncId} {fn : Func} {tS tR e : TypeId} (hf : P.funcs[f]? = some fn) (hname : (fn.name == "runtime.NumGoroutine") = false) (hb : fn.body.isNone = true) (hn : Extern.findNext fn = none)
    (he : Extern.find fn = some (Extern.SlicesOverlaps.overlaps #[tS, tS] #[tR])) (ht : P.underlying tS = some (.slice e)) {size : Nat} (hz : ∀ w, (Go.sizeOf e).run P w = .ok size w) : GSound P f gOv := by
  rintro w S ρ H xs args Φ hm hargs ⟨hov, hΦ⟩
  have fin : (callFunc f args).run P w = .ok (.value (.bool false)) w → CallRuns P f args w (GPost w S ρ H Φ) := fun hr =>
    .inr ⟨.bool false, w, hr, .bool false, H, S, ρ, hΦ, hm, .bool _ _, Goes.refl w S ρ H (Nat.le_refl _)⟩
  refine fin ?_
  rw [run_callFunc_extern hf hname hb hn he]
  unfold ovOK at hov
  split at hov
  · rename_i sz fr es q ver off len
    obtain ⟨hs, hr⟩ := hargs
    have h0 : 0 < args.size := by rw [hs]; simp
    have h1 : 1 < args.size := by rw [hs]; simp
    have r0 := hr 0 _ args[0] rfl (Array.getElem?_eq_getElem h0)
    have r1 := hr 1 _ args[1] rfl (Array.getElem?_eq_getElem h1)
    have hargs' : args = #[args[0], args[1]] := by
      apply Array.ext
      · rw [hs]; rfl
      · intro i hi hi2
        have : i < 2 := hi2
        rcases i with _ | _ | i
        · rfl
        · rfl
        · omega
    rw [hargs']
    generalize args[0] = v0 at r0
    generalize args[1] = v1 at r1
    cases r0 with
    | sl _ _ _ _ A la ca cell hl hc hx hfr hsz hcell hA hrr =>
      cases r1 with
      | osub _ _ _ _ _ B cb hp hver hcp hB hrb =>
        by_cases hz0 : A = none ∨ B = none ∨ la = 0 ∨ len = 0
        · rw [run_overlaps_nil w tS tR e ht size hz A B la ca len cb hz0]; rfl
        · have hA' : ∃ a, A = some a := by cases A with | none => exact absurd (.inl rfl) hz0 | some a => exact ⟨a, rfl⟩
          have hB' : ∃ b, B = some b := by cases B with | none => exact absurd (.inr (.inl rfl)) hz0 | some b => exact ⟨b, rfl⟩
          obtain ⟨a, rfl⟩ := hA'
          obtain ⟨b, rfl⟩ := hB'
          have hla : 0 < la := by rcases Nat.eq_zero_or_pos la with h | h; exact absurd (.inr (.inr (.inl h))) hz0; exact h
          have hlb : 0 < len := by rcases Nat.eq_zero_or_pos len with h | h; exact absurd (.inr (.inr (.inr h))) hz0; exact h
          obtain ⟨a', ha', haS, hac, _⟩ := hcell 0 0 hla (Nat.succ_pos _)
          cases ha'
          cases hq : H.getD q .none with
          | none => rw [hq] at hov; cases hov
          | var => rw [hq] at hov; cases hov
          | arr cl v qsz cap qes =>
            rw [hq] at hov
            have hv : v = ver := hov
            subst hv
            have hget := getD_some hq (by simp)
            obtain ⟨e1, e2, e3, e4, e5, e6, e7, e8, e9⟩ := hm.ent q _ hget
            obtain ⟨k1, k2⟩ := hrb e1.symm
            have hcap : 0 < cb := by omega
            have hb' := k2 hcap
            have hqc : 0 < (ρ q).cap := by omega
            obtain ⟨cs, ty, c1, c2, c3, c4⟩ := e9 hqc
            have hbe : b = ⟨(ρ q).blk, off * (ρ q).sz, none⟩ := Option.some.inj hb'
            have hne : a.block ≠ b.block := by
              intro h
              exact (hm.stab _ haS).2 ⟨q, _, hget, hqc, by rw [h, hbe]⟩
            obtain ⟨tA, kA, hsa, hlt, _⟩ := World.shape?_of_cell? hac
            have hab : (a.add (0 * (sz + 1) + 0)).block = a.block := by unfold Addr.add; split <;> rfl
            rw [hab] at hsa
            have hfz : ∀ o, w.frozen? ⟨(ρ q).blk, o, none⟩ = false := by
              intro o
              simp [World.frozen?, c1]
            rw [run_overlaps_own w tS tR e ht size hz a b la ca len cb hne tA ty kA cs.size hsa (by omega) (by rw [hbe]; simp [World.shape?, c1]) (by rw [c2]; exact Nat.ne_of_gt (Nat.mul_pos hqc e4)) (by rw [hbe]; exact hfz _) (by rw [hbe]; exact hfz _)]
            rfl
  · cases hov

theorem none_sound : Sound P (XE.env fun _ => none) := by intro f sp h; cases h
theorem env_of {X : XE} {f : FuncId} {ox : Option XS} {sp : Spec} (h : (match ox with | some x => some x.spec | none => none) = some sp) (hx : X f = ox) : X.env f = some sp := by
  subst hx; exact h
theorem ovEnv_sound {k : Nat} (h : GSound P k gOv) : Sound P (ovEnv k) := by
  intro f sp hs
  unfold ovEnv at hs
  cases hb : Nat.beq f k with
  | false => rw [hb] at hs; cases hs
  | true =>
    rw [hb] at hs
    cases hs
    have := Nat.eq_of_beq_eq_true hb
    subst this
    exact h

/-- slices.Insert, as a contract. -/
theorem insert_sound {te : TE} (hte : TEok P te) (hmix : P.follows .mixedOrders = true) {f k : FuncId} {fn : Func} (hf : IsFun P f fn) (hov : GSound P k gOv) {ty el sz byt : Nat} (hsz : 0 < sz) (hbyt : byt ≤ 1000)
    (hv : ∀ (v : Nat) (i : Int) (z : Nat) (fr : Bool) (es vs : List (List AV)) (Φ : AV → List Ent → Prop), wFun te (ovEnv k) fn [.own 0 v es.length, .int .i64 i, .sl z fr vs] [.arr true v sz none es] Φ = insF te ty el sz byt v i z fr es vs Φ) :
    SpecSound P f (XS.spec (.gen (xLend (xIns sz byt) sz))) := by
  refine lend_sound (fun_sound hte (ovEnv_sound hov) hmix hf) ?_
  intro v es es' rest hF
  unfold xIns at hF
  split at hF
  · rename_i i z fr vs
    obtain ⟨h1, h2⟩ := whenB_some hF
    obtain ⟨h3, h4⟩ := andB_true h1
    obtain ⟨h5, h6⟩ := andB_true h4
    have hz := Nat.eq_of_beq_eq_true h5
    subst hz
    have hi := of_decide_eq_true h3
    have hn := of_decide_eq_true h6
    simp only [Option.some.injEq] at h2
    rw [hv]
    exact insF_lend te ty el z byt v hsz i fr es vs es' hi.1 hi.2 hn.1 hbyt h2.symm
  · cases hF
theorem delete_sound {te : TE} (hte : TEok P te) (hmix : P.follows .mixedOrders = true) {f : FuncId} {fn : Func} (hf : IsFun P f fn) {ty el sz byt : Nat}
    (hv : ∀ (v : Nat) (i j : Int) (es : List (List AV)) (Φ : AV → List Ent → Prop), wFun te (fun _ => none) fn [.own 0 v es.length, .int .i64 i, .int .i64 j] [.arr true v sz none es] Φ = delF te ty el sz byt v i j es Φ) :
    SpecSound P f (XS.spec (.gen (xLend xDel sz))) := by
  refine lend_sound (fun_sound hte (Γ := fun _ => none) (by intro f sp h; cases h) hmix hf) ?_
  intro v es es' rest hF
  unfold xDel at hF
  split at hF
  · rename_i i j
    obtain ⟨h1, h2⟩ := whenB_some hF
    have hi := of_decide_eq_true h1
    simp only [Option.some.injEq] at h2
    rw [hv]
    exact delF_lend te ty el sz byt v i j es es' hi.1 hi.2.1 hi.2.2 h2.symm
  · cases hF

end
end Go.Rf
