/-
  THE SYMBOLIC EXECUTOR, part 13: one operation.
-/
import Derived.Test.YtdojencjbmahpaaGreatDoorRfC
set_option linter.unusedVariables false
set_option linter.unusedSimpArgs false
namespace Go.Rf

section
variable {P : Program} {w : World} {S : Nat → Prop} {ρ : Reg}

/-- An operation gives a value (or none, where nothing comes of it). -/
def OpRuns (P : Program) (w : World) (m : Sem Next) (x : Value) (w' : World) : Prop := m.run P w = .ok (.value x) w' ∨ (m.run P w = .ok .skip w' ∧ x = undef)

def OpStep (P : Program) (w : World) (S : Nat → Prop) (ρ : Reg) (H : List Ent) (m : Sem Next) (v : AV) (H' : List Ent) : Prop :=
  ∃ x w' S' ρ', OpRuns P w m x w' ∧ Rd w' S' ρ' H'.length v x ∧ RH w' S' ρ' H' ∧ Goes w S ρ H w' S' ρ' H' H.length

theorem OpStep.of {H H' : List Ent} {m : Sem Value} {v : AV} (h : Step P w S ρ H m v H') : OpStep P w S ρ H (do Pure.pure (.value (← m))) v H' := by
  obtain ⟨x, w', S', ρ', h1, h2, h3, h4⟩ := h
  refine ⟨x, w', S', ρ', .inl ?_, h2, h3, h4⟩
  rw [Sem.run_bind, h1]; rfl
theorem OpStep.ofU {H H' : List Ent} {m : Sem Unit} (h : StepU P w S ρ H m H') : OpStep P w S ρ H (do m; Pure.pure .skip) .junk H' := by
  obtain ⟨w', S', ρ', h1, h2, h3⟩ := h
  refine ⟨undef, w', S', ρ', .inr ⟨?_, rfl⟩, .junk _ _, h2, h3⟩
  rw [Sem.run_bind, h1]; rfl

theorem toList_one {α : Type} {a : Array α} {x : α} (h : a.toList = [x]) : a = #[x] := by cases a; simp at h; subst h; rfl
theorem toList_two {α : Type} {a : Array α} {x y : α} (h : a.toList = [x, y]) : a = #[x, y] := by cases a; simp at h; subst h; rfl

theorem builtin_sim {te : TE} (hte : TEok P te) {s : St} {a : Act} (hs : RS w S ρ s a) {p : Nat} (hp : Fresh s.H p) (b : Builtin) (args : List Operand) (tys : List TypeId) (ty : TypeId) (cs : Array Bool) {out : Out} (he : evBuiltin te p (ev s.T) s.H b args tys = some out) (hc : condK out.c True) :
    OpStep P w S ρ s.H (builtin b tys.toArray ty cs (args.map a.eval).toArray) out.v (putH s.H out.w) := by
  unfold evBuiltin at he
  split at he
  · exact .of ((plain_len hte _ ty (hs.ev _) he).step hs.mem)
  · exact .of ((plain_max _ ty (hs.ev _) (hs.ev _) he).step hs.mem)
  · exact .of ((plain_min _ ty (hs.ev _) (hs.ev _) he).step hs.mem)
  · rename_i x y t u
    cases hi : elemI te (te t) with
    | none => rw [hi] at he; cases he
    | some i =>
      rw [hi] at he
      obtain ⟨j, e, h1, h2, h3⟩ := elemI_some hi
      obtain ⟨inf, d, z, hf⟩ := hte.get h1
      obtain ⟨inf', d', z', hf'⟩ := hte.get h3
      have := hf.kslice h2; subst this
      simp only [evApp] at he
      unfold evAppend at he
      have hx := hs.ev x
      have hy := hs.ev y
      refine .of (m := Builtin.append_ #[t, u] ty #[a.eval x, a.eval y]) ?_
      split at he
      · rename_i xsz es k hex
        rw [hex] at hx
        exact appF_step hte hs.mem hp hf.und hf' hx hy he hc
      · rename_i q ver len k hex
        rw [hex] at hx
        exact appO_step hte hs.mem hf.und hf' hx hy he hc
      · cases he
  · rename_i x y t u
    cases hi : elemI te (te t) with
    | none => rw [hi] at he; cases he
    | some i =>
      rw [hi] at he
      obtain ⟨j, e, h1, h2, h3⟩ := elemI_some hi
      obtain ⟨inf, d, z, hf⟩ := hte.get h1
      obtain ⟨inf', d', z', hf'⟩ := hte.get h3
      have := hf.kslice h2; subst this
      simp only [evCp] at he
      exact .of (m := Builtin.copy_ #[t, u] ty #[a.eval x, a.eval y]) (copy_step hs.mem hf.und hf' (hs.ev x) (hs.ev y) he hc)
  · exact .of (clear_step hte hs.mem (hs.ev _) he hc)
  · cases he

theorem op_sim {te : TE} (hte : TEok P te) {s : St} {a : Act} (hs : RS w S ρ s a) {p : Nat} (hp : Fresh s.H p) (o : Oper) {out : Out} (he : evOp te p s.T s.H o.op = some out) (hc : condK out.c True) :
    OpStep P w S ρ s.H (execOp a.eval o) out.v (putH s.H out.w) := by
  have hev := hs.ev
  unfold execOp
  unfold evOp evOpE at he
  split at he
  all_goals rename_i hop
  all_goals (try rw [hop])
  · have := ret_some he; subst this
    exact ⟨_, w, S, ρ, .inl rfl, hev _, hs.mem, Goes.refl w S ρ s.H (Nat.le_refl _)⟩
  · have := ret_some he; subst this
    exact ⟨_, w, S, ρ, .inl rfl, hev _, hs.mem, Goes.refl w S ρ s.H (Nat.le_refl _)⟩
  · rename_i c x y
    have hcv := hev c
    unfold evPick at he
    split at he
    · rename_i hcc
      have := ret_some he; subst this
      rw [hcc] at hcv
      generalize hce : a.eval c = cv at hcv
      cases hcv
      exact ⟨_, w, S, ρ, .inl (by simp [hce, asBool]), hev _, hs.mem, Goes.refl w S ρ s.H (Nat.le_refl _)⟩
    · rename_i hcc
      have := ret_some he; subst this
      rw [hcc] at hcv
      generalize hce : a.eval c = cv at hcv
      cases hcv
      exact ⟨_, w, S, ρ, .inl (by simp [hce, asBool]), hev _, hs.mem, Goes.refl w S ρ s.H (Nat.le_refl _)⟩
    · cases he
  · exact .of (alloc_step hte hs.mem hp _ he)
  · exact .of (box_step hte hs.mem hp _ (hev _) he)
  · exact .of (build_step hte hs.mem _ hev _ he)
  · exact .of (lit_step hte hs.mem hp _ _ hev _ he)
  · rename_i t x
    cases hi : te t with
    | none => rw [hi] at he; cases he
    | some i =>
      rw [hi] at he
      obtain ⟨inf, d, z, hf⟩ := hte.get hi
      exact .of ((load_var hs.mem hf (hev _) he hc).step hs.mem)
  · rename_i t x y
    cases hi : te t with
    | none => rw [hi] at he; cases he
    | some i =>
      rw [hi] at he
      obtain ⟨inf, d, z, hf⟩ := hte.get hi
      have hv : out.v = .junk := by
        simp only [evStoreT] at he
        unfold evStore at he
        split at he
        · unfold storeP at he
          split at he
          · obtain ⟨_, h2⟩ := ifo_some he; cases h2; rfl
          · cases he
        · unfold storeE at he
          split at he
          · obtain ⟨_, h2⟩ := ifo_some he; cases h2; rfl
          · cases he
        · cases he
      rw [hv]
      exact .ofU (store_var hs.mem hf (hev _) (hev _) he hc)
  · exact .of ((plain_bin te hte _ _ _ _ (hev _) (hev _) he hc).step hs.mem)
  · exact .of ((plain_un _ (hev _) he).step hs.mem)
  · exact .of (conv_step hte hs.mem _ _ (hev _) he hc)
  · exact .of (make_step hte hs.mem hp _ (hev _) (hev _) he hc)
  · exact .of ((plain_slice hte hs _ _ _ _ _ he hc).step hs.mem)
  · exact .of ((plain_fieldAddr hte _ _ (hev _) he).step hs.mem)
  · exact .of ((plain_field hte _ _ (hev _) he).step hs.mem)
  · exact .of ((plain_indexAddr hte hs.mem _ (hev _) (hev _) he hc).step hs.mem)
  · exact .of ((plain_index hte _ (hev _) (hev _) he hc).step hs.mem)
  · exact .of ((plain_extract _ (hev _) he).step hs.mem)
  · rename_i x
    have hx := hev x
    unfold evNil at he
    split at he
    all_goals first
      | (cases he; done)
      | (rename_i hcc
         have := ret_some he; subst this
         rw [hcc] at hx
         refine ⟨a.eval x, w, S, ρ, .inl ?_, hx, hs.mem, Goes.refl w S ρ s.H (Nat.le_refl _)⟩
         generalize hcv : a.eval x = cv at hx
         cases hx
         simp [hcv])
  · rename_i b args tys
    have := builtin_sim hte hs hp b args.toList tys.toList o.type (args.map fun | .const _ => true | _ => false) he hc
    obtain ⟨x, w', S', ρ', h1, h2⟩ := this
    refine ⟨x, w', S', ρ', ?_, h2⟩
    have hcall : (do let d ← resolve a.eval { callee := .builtin b, args := args, argTypes := tys } o.type; invoke d.target d.args : Sem Next) = builtin b tys.toList.toArray o.type (args.map fun | .const _ => true | _ => false) (args.toList.map a.eval).toArray := by
      simp only [resolve, pure_bind, invoke, Array.toArray_toList]
      congr 1
      rw [← Array.toList_map, Array.toArray_toList]
    rw [← hcall] at h1
    exact h1
  · cases he

end
end Go.Rf
