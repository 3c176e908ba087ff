/-
  THE SYMBOLIC EXECUTOR, part 9: conversions, slicing, what is newly made.
-/
import Derived.Test.YtdojencjbmahpaaGreatDoorRf8
import Derived.Laws.MakeOwn
import Derived.Lib.ConvBytes
set_option linter.unusedVariables false
set_option linter.unusedSimpArgs false
namespace Go.Rf

section
variable {P : Program} {w : World} {S : Nat → Prop} {ρ : Reg} {H : List Ent}

theorem plain_len {te : TE} (hte : TEok P te) (t ty : TypeId) {a : AV} {u : Value} (hu : Rd w S ρ H.length a u) {out : Out} (he : evLenT a (te t) = some out) : Plain P w S ρ H (Builtin.len_ #[t] ty #[u]) out := by
  cases hi : te t with
  | none => rw [hi] at he; cases he
  | some i =>
    rw [hi] at he
    obtain ⟨inf, d, z, hf⟩ := hte.get hi
    simp only [evLenT] at he
    unfold evLen at he
    have hsl : ∀ e, i.kind = .slice e → ∀ A n c, (Builtin.len_ #[t] ty #[.slice A n c]).run P w = .ok (goInt n) w := by
      intro e hk A n c
      have := hf.kslice hk; subst this
      simp [Builtin.len_, run_underlying hf.und]
    split at he
    · rename_i e sz fr es hk
      have := ret_some he; subst this
      cases hu with
      | sl _ _ _ _ A len cap cell hl => exact ⟨rfl, _, hsl e hk _ _ _, by rw [hl]; exact .int _ _ _⟩
    · rename_i e q v len hk
      have := ret_some he; subst this
      cases hu with
      | own => exact ⟨rfl, _, hsl e hk _ _ _, .int _ _ _⟩
    · rename_i e q v o len hk
      have := ret_some he; subst this
      cases hu with
      | osub => exact ⟨rfl, _, hsl e hk _ _ _, .int _ _ _⟩
    · rename_i s hk
      have := ret_some he; subst this
      have := hf.kstr hk; subst this
      cases hu
      exact ⟨rfl, _, by simp [Builtin.len_, run_underlying hf.und, goInt], .int _ _ _⟩
    · cases he

theorem plain_max (ts : Array TypeId) (ty : TypeId) {a b : AV} {u v : Value} (hu : Rd w S ρ H.length a u) (hv : Rd w S ρ H.length b v) {out : Out} (he : evMax a b = some out) : Plain P w S ρ H (Builtin.max_ ts ty #[u, v]) out := by
  unfold evMax at he
  split at he
  · obtain ⟨h1, h2⟩ := ifo_some he
    have := kn_eq h1; subst this
    have := ret_some h2; subst this
    cases hu; cases hv
    exact ⟨rfl, _, run_max_int2 w ts ty _ _ _ _, .int _ _ _⟩
  · cases he
theorem plain_min (ts : Array TypeId) (ty : TypeId) {a b : AV} {u v : Value} (hu : Rd w S ρ H.length a u) (hv : Rd w S ρ H.length b v) {out : Out} (he : evMin a b = some out) : Plain P w S ρ H (Builtin.min_ ts ty #[u, v]) out := by
  unfold evMin at he
  split at he
  · obtain ⟨h1, h2⟩ := ifo_some he
    have := kn_eq h1; subst this
    have := ret_some h2; subst this
    cases hu; cases hv
    exact ⟨rfl, _, run_min_int2 w ts ty _ _ _ _, .int _ _ _⟩
  · cases he

theorem isU8_some {P : Program} {te : TE} (hte : TEok P te) {e : TypeId} (h : isU8 (te e) = true) : ∃ i inf z, te e = some i ∧ TF P e i inf (.int .u8) z := by
  cases hi : te e with
  | none => rw [hi] at h; cases h
  | some i =>
    rw [hi] at h
    obtain ⟨inf, d, z, hf⟩ := hte.get hi
    simp only [isU8] at h
    cases hk : i.kind <;> rw [hk] at h <;> try (cases h; done)
    rename_i k
    simp only [isU8K] at h
    have : k = .u8 := kn_eq h
    subst this
    have := hf.kint hk; subst this
    exact ⟨i, inf, z, rfl, hf⟩

theorem bytes_values : ∀ (es : List (List AV)), (∀ e ∈ es, isByte e) → ∃ ns : List Int, es = ns.map (fun n => [AV.int .u8 n]) ∧ strOf es = ⟨(ns.map fun n => UInt8.ofNat n.toNat).toArray⟩
  | [], _ => ⟨[], rfl, rfl⟩
  | e :: es, h => by
    obtain ⟨ns, h1, h2⟩ := bytes_values es (fun e he => h e (by simp [he]))
    have hb : isByteB e = true := h e (by simp)
    unfold isByteB at hb
    split at hb
    · rename_i n
      refine ⟨n :: ns, by simp [← h1], ?_⟩
      simp only [strOf, List.map_cons, byteOf] at h2 ⊢
      injection h2 with h2
      congr 1
      apply Array.ext'
      have := congrArg Array.toList h2
      simp only [List.map_cons]
      simpa using this
    · cases hb

theorem bytesAV_get (s : ByteArray) (i : Nat) : (bytesAV s)[i]? = (s.data.toList[i]?).map fun b => [AV.int .u8 (b.toNat : Int)] := by simp [bytesAV]
theorem bytesAV_rows (s : ByteArray) (n : Nat) : RowsRd w S ρ n 1 (bytesAV s) (s.data.toList.map fun b => Value.int .u8 (b.toNat : Int)) where
  len := by simp [bytesAV]
  one := by intro v hv; simp at hv; obtain ⟨b, _, rfl⟩ := hv; rfl
  row := by intro e he; simp [bytesAV] at he; obtain ⟨b, _, rfl⟩ := he; rfl
  rd := by
    intro i k e a v he ha hv
    rw [bytesAV_get] at he
    cases hb : s.data.toList[i]? with
    | none => rw [hb] at he; cases he
    | some b =>
      rw [hb] at he
      cases he
      have : k = 0 := by
        have := (List.getElem?_eq_some_iff.1 ha).1
        simp at this
        exact this
      subst this
      simp at ha
      subst ha
      rw [Nat.mul_one, Nat.add_zero, List.getElem?_map, hb] at hv
      cases hv
      exact .int _ _ _

theorem conv_step {te : TE} (hte : TEok P te) (hm : RH w S ρ H) (src dst : TypeId) {a : AV} {u : Value} (hu : Rd w S ρ H.length a u) {out : Out} (he : evConvT te a (te src) (te dst) = some out) (hc : condK out.c True) :
    Step P w S ρ H (convert src dst u) out.v (putH H out.w) := by
  cases hi : te src with
  | none => rw [hi] at he; cases he
  | some i =>
    cases hj : te dst with
    | none => rw [hi, hj] at he; cases he
    | some j =>
      rw [hi, hj] at he
      obtain ⟨inf, d, z, hf⟩ := hte.get hi
      obtain ⟨inf', d', z', hf'⟩ := hte.get hj
      simp only [evConvT] at he
      unfold evConv at he
      split at he
      · rename_i k l n hk
        have := ret_some he; subst this
        have := hf'.kint hk; subst this
        cases hu
        refine Step.pure hm ?_ (.int _ _ _)
        simp [convert, run_underlying hf.und, run_underlying hf'.und, Conv.intToInt]
      · rename_i s hk
        have := ret_some he; subst this
        have := hf'.kstr hk; subst this
        cases hu
        refine Step.pure hm ?_ (.str _ _)
        simp [convert, run_underlying hf.und, run_underlying hf'.und]
      · rename_i e sz fr es hk1 hk2
        obtain ⟨h1, h2⟩ := ifo_some he
        obtain ⟨h3, h4⟩ := andB_true h1
        have := eqb_eq h4; subst this
        have := retc_some h2; subst this
        simp only [condK] at hc
        have hb := hc.1
        have := hf'.kstr hk2; subst this
        have := hf.kslice hk1; subst this
        obtain ⟨ie, infe, ze, _, hfe⟩ := isU8_some hte h3
        obtain ⟨ns, hns, hstr⟩ := bytes_values es hb
        cases hu with
        | sl _ _ _ _ A len cap cell hl hc' hx hfr hsz hcell hA h =>
          refine Step.pure hm ?_ (.str _ _)
          rw [run_convert_bytes_string w src dst e A len cap hf.und hfe.und hf'.und]
          cases A with
          | none =>
            have : len = 0 := by
              rcases Nat.eq_zero_or_pos len with h0 | h0
              · exact h0
              · cases hA h0
            subst this
            have : es = [] := List.eq_nil_of_length_eq_zero hl
            subst this
            rfl
          | some A =>
            have hcv : ∀ (k : Nat) (n : Int), ns[k]? = some n → w.cell? (A.add k) = some (.int .u8 n) := by
              intro k n hn
              have he' : es[k]? = some [AV.int .u8 n] := by rw [hns, List.getElem?_map, hn]; rfl
              have hlt := (List.getElem?_eq_some_iff.1 he').1
              obtain ⟨a, c1, c2, c3, c4⟩ := hcell k 0 (by omega) Nat.one_pos
              cases c1
              have hr := h k 0 _ _ he' rfl
              generalize cell k 0 = c at c3 hr
              cases hr
              simpa using c3
            have hll : (loadCells A len).run P w = .ok (ns.map (Value.int .u8)).toArray w := by
              have hlen : (ns.map (Value.int .u8)).length = len := by rw [← hl, hns]; simp
              have := run_loadCells_list (P := P) w A (ns.map (Value.int .u8)) (fun k v hv => by
                rw [List.getElem?_map] at hv
                cases hn : ns[k]? with
                | none => rw [hn] at hv; cases hv
                | some n => rw [hn] at hv; cases hv; exact hcv k n hn)
              rwa [hlen] at this
            rw [run_bytesToString w A len cap ns hll, foldl_push_bytes, hstr]
            simp [ByteArray.empty, ByteArray.emptyWithCapacity]
            rfl
      · rename_i k e s hk
        obtain ⟨h1, h2⟩ := ifo_some he
        have := retc_some h2; subst this
        simp only [condK] at hc
        have := hf'.kslice hk; subst this
        obtain ⟨ie, infe, ze, _, hfe⟩ := isU8_some hte h1
        cases hu
        have hmx : s.size ≤ maxLen := by simp only [maxLen]; omega
        have hlen : (bytesAV s).length = s.size := by unfold bytesAV; rw [List.length_map, Array.length_toList]; rfl
        have hrun := Go.Lib.run_convert_string_bytes (P := P) w src dst e s hf.und hf'.und hfe.und
        rw [← hlen] at hrun
        refine Step.row hm (Go.Lib.bytesWorld w e s) false hrun ?_ ?_ ?_ (Go.Lib.bytesWorld_size w e s) (fun k hk => Go.Lib.bytesWorld_at_old w e s k hk) (Go.Lib.bytesWorld_at_new w e s) (vs := s.data.toList.map fun b => Value.int .u8 (b.toNat : Int)) ?_ (bytesAV_rows s 0) (by rw [hlen]; exact grownCap_ge w s.size 0 e) (by rw [hlen]; exact grownCap_le_maxLen w s.size 0 e hmx) (by simp)
        · unfold Go.Lib.bytesWorld World.freeze; split <;> rfl
        · unfold Go.Lib.bytesWorld World.freeze; split <;> rfl
        · unfold Go.Lib.bytesWorld World.freeze; split <;> rfl
        · intro j v hv
          rw [List.getElem?_map] at hv
          cases hb : s.data.toList[j]? with
          | none => rw [hb] at hv; cases hv
          | some b =>
            rw [hb] at hv
            cases hv
            have hj := (List.getElem?_eq_some_iff.1 hb).1
            simp only [Array.length_toList] at hj
            unfold Go.Lib.bytesCells
            rw [Array.getElem?_append_left (by simpa using hj), Array.getElem?_map]
            rw [Array.getElem?_toList] at hb
            rw [hb]
            rfl
      · cases he

/-! ### Slicing -/
/-- What an operand of a slicing is. -/
def OptRd (l : Option Int) (v : Option Value) : Prop :=
  match l, v with
  | none, none => True
  | some n, some u => ∃ k, u = .int k n
  | _, _ => False

theorem run_slice_lh' (t : TypeId) (A : Option Addr) (len cap : Nat) (ht : P.underlying t = some (.slice (P.elem t))) {s : Nat} (hs : ∀ w, (sizeOf (P.elem t)).run P w = .ok s w) (l h : Option Int) (vl vh : Option Value) (hl : OptRd l vl) (hh : OptRd h vh)
    (h0 : 0 ≤ slLo l) (h1 : slLo l ≤ slHi len h) (h2 : slHi len h ≤ cap) :
    (Instr.sliceAt t (.slice A len cap) vl vh none).run P w = .ok (sliced A (slLo l).toNat (slHi len h).toNat cap s) w := by
  rw [run_sliceAt_slice w t _ _ _ _ ht]
  cases l with
  | none =>
    cases vl with
    | some => exact hl.elim
    | none =>
      cases h with
      | none =>
        cases vh with
        | some => exact hh.elim
        | none => simp only [slLo, slHi] at *; rw [run_slice_all w t A len cap ht, hs]; simp
      | some h =>
        cases vh with
        | none => exact hh.elim
        | some u => obtain ⟨k, rfl⟩ := hh; simp only [slLo, slHi] at *; rw [run_slice_h w t A len cap ht k h (by omega) h2, hs]; simp
  | some l =>
    cases vl with
    | none => exact hl.elim
    | some u =>
      obtain ⟨k, rfl⟩ := hl
      cases h with
      | none =>
        cases vh with
        | some => exact hh.elim
        | none => simp only [slLo, slHi] at *; rw [run_slice_l w t A len cap ht k l (by omega) (by omega), hs]; simp
      | some h =>
        cases vh with
        | none => exact hh.elim
        | some u => obtain ⟨k', rfl⟩ := hh; simp only [slLo, slHi] at *; rw [run_slice_lh w t A len cap ht k k' l h (by omega) (by omega) h2, hs]; simp

theorem run_slice_m' (t : TypeId) (A : Option Addr) (len cap : Nat) (ht : P.underlying t = some (.slice (P.elem t))) {s : Nat} (hs : ∀ w, (sizeOf (P.elem t)).run P w = .ok s w) (l : Option Int) (h m : Int) (vl vh vm : Option Value) (hl : OptRd l vl) (hh : OptRd (some h) vh) (hm' : OptRd (some m) vm)
    (h0 : 0 ≤ slLo l) (h1 : slLo l ≤ h) (h2 : h ≤ m) (h3 : m ≤ cap) :
    (Instr.sliceAt t (.slice A len cap) vl vh vm).run P w = .ok (sliced A (slLo l).toNat h.toNat m.toNat s) w := by
  rw [run_sliceAt_slice w t _ _ _ _ ht]
  cases vh with
  | none => exact hh.elim
  | some u =>
    obtain ⟨kh, rfl⟩ := hh
    cases vm with
    | none => exact hm'.elim
    | some u =>
      obtain ⟨km, rfl⟩ := hm'
      cases l with
      | none =>
        cases vl with
        | some => exact hl.elim
        | none => simp only [slLo] at *; rw [run_slice_hm w t A len cap ht kh km h m (by omega) h2 h3, hs]; simp
      | some l =>
        cases vl with
        | none => exact hl.elim
        | some u => obtain ⟨k, rfl⟩ := hl; simp only [slLo] at *; rw [run_slice_lhm w t A len cap ht k kh km l h m (by omega) (by omega) h2 h3, hs]; simp

/-- A part of a row told by value. -/
theorem Rd.part {sz : Nat} {fr : Bool} {es : List (List AV)} {A : Option Addr} {len cap n : Nat} (hv : Rd w S ρ n (.sl sz fr es) (.slice A len cap)) (l h m : Nat) (hlh : l ≤ h) (hhl : h ≤ len) (hhm : h ≤ m) (hm : m ≤ cap) (fr' : Bool) (hf : fr' = true → m = h) :
    Rd w S ρ n (.sl sz fr' ((es.drop l).take (h - l))) (sliced A l h m sz) := by
  cases hv with
  | sl _ _ _ _ _ _ _ cell hl hc' hx hfr hsz hcell hA hr =>
    have hlen : ((es.drop l).take (h - l)).length = h - l := by simp; omega
    refine .sl _ sz fr' _ _ (h - l) (m - l) (fun i k => cell (l + i) k) hlen (by omega) (by omega) (fun hf' => by rw [hf hf']) (fun e he => hsz e (List.mem_of_mem_drop (List.mem_of_mem_take he))) ?_ ?_ ?_
    · intro i k hi hk
      obtain ⟨a, c1, c2, c3, c4⟩ := hcell (l + i) k (by omega) hk
      subst c1
      rw [if_neg (by omega)]
      refine ⟨a.add (l * sz), rfl, by rw [Addr.add_block]; exact c2, ?_, c4⟩
      rw [Addr.add_add, ← c3]
      congr 2
      rw [Nat.add_mul]
      omega
    · intro h0
      have := hA (by omega)
      cases A with
      | none => cases this
      | some a => split <;> rfl
    · intro i k e a he ha
      rw [List.getElem?_take] at he
      split at he
      · rw [List.getElem?_drop] at he
        exact hr (l + i) k e a he ha
      · cases he

theorem optInt_rd {s : St} {a : Act} (h : RS w S ρ s a) (o : Option Operand) {l : Option Int} (hl : optInt (ev s.T) o = some l) : OptRd l (o.map a.eval) := by
  cases o with
  | none => simp only [optInt] at hl; cases hl; trivial
  | some x =>
    simp only [optInt] at hl
    have hr := RS.ev h x
    simp only [Option.map_some]
    generalize a.eval x = u at hr
    cases hv : ev s.T x <;> rw [hv] at hl hr <;> try (cases hl; done)
    cases hl
    cases hr
    exact ⟨_, rfl⟩

theorem sameConst_eq {T : List AV} {hi mx : Option Operand} {h m : Int} (hs : sameConst hi mx = true) (h1 : optInt (ev T) hi = some (some h)) (h2 : optInt (ev T) mx = some (some m)) : h = m := by
  unfold sameConst at hs
  split at hs
  · have := eqb_eq hs
    subst this
    simp only [optInt, ev, avOf, optV, Option.some.injEq] at h1 h2
    rw [← h1, ← h2]
  · cases hs

theorem lim_cap (hm : RH w S ρ H) {q ver off len cap : Nat} {A : Option Addr} (hcp : len ≤ cap) (hA : 0 < len → A.isSome = true) (hr : ver = (ρ q).ver → off + cap = (ρ q).cap ∧ (0 < cap → A = some ⟨(ρ q).blk, off * (ρ q).sz, none⟩)) :
    limE ver off len (H.getD q .none) ≤ cap ∧ (0 < limE ver off len (H.getD q .none) → A.isSome = true) := by
  cases hq : H.getD q .none with
  | none => exact ⟨hcp, hA⟩
  | var => exact ⟨hcp, hA⟩
  | arr cl v sz c es =>
    simp only [limE]
    cases hb : Nat.beq v ver with
    | false => exact ⟨hcp, hA⟩
    | true =>
      have hv : v = ver := Nat.eq_of_beq_eq_true hb
      subst hv
      have hget := getD_some hq (by simp)
      obtain ⟨e1, e2, e3, e4, e5, e6, e7, e8, e9⟩ := hm.ent q _ hget
      obtain ⟨k1, k2⟩ := hr e1.symm
      have hle : limE.limB len (es.length - off) true ≤ cap := by
        simp only [limE.limB]
        split <;> omega
      exact ⟨hle, fun h => by rw [k2 (by omega)]; rfl⟩

theorem plain_slice {te : TE} (hte : TEok P te) {s : St} {a : Act} (hs : RS w S ρ s a) (t : TypeId) (x : Operand) (lo hi mx : Option Operand) {out : Out} (he : evSliceT te s.H (ev s.T) (ev s.T x) lo hi mx (te t) = some out) (hc : condK out.c True) :
    Plain P w S ρ s.H (Instr.sliceAt t (a.eval x) (lo.map a.eval) (hi.map a.eval) (mx.map a.eval)) out := by
  cases hi' : te t with
  | none => rw [hi'] at he; cases he
  | some i =>
    rw [hi'] at he
    obtain ⟨inf, d, z, hf⟩ := hte.get hi'
    simp only [evSliceT] at he
    have hu := RS.ev hs x
    generalize hex : ev s.T x = ax at he hu
    generalize hvx : a.eval x = vx at hu
    cases hk : i.kind <;> rw [hk] at he <;> try (cases he; done)
    case str =>
      have hd := hf.kstr hk
      subst hd
      simp only [sliceK] at he
      cases ax <;> simp only [evSliceS] at he <;> try (cases he; done)
      rename_i st
      cases hu
      cases hol : optInt (ev s.T) lo with
      | none => rw [hol] at he; cases he
      | some l =>
        cases hoh : optInt (ev s.T) hi with
        | none => rw [hol, hoh] at he; cases he
        | some h =>
          cases hom : optInt (ev s.T) mx with
          | none => rw [hol, hoh, hom] at he; cases he
          | some m =>
            rw [hol, hoh, hom] at he
            cases m with
            | some m => cases he
            | none =>
              have rl := optInt_rd hs lo hol
              have rh := optInt_rd hs hi hoh
              have rm := optInt_rd hs mx hom
              cases hmx : mx with
              | some y => rw [hmx] at rm; exact rm.elim
              | none =>
                have := retc_some he; subst this
                simp only [condK] at hc
                obtain ⟨⟨c0, c1, c2⟩, _⟩ := hc
                refine ⟨rfl, _, ?_, .str _ _⟩
                rw [run_sliceAt_string w t _ _ _ _ hf.und]
                generalize lo.map a.eval = vl at rl
                generalize hi.map a.eval = vh at rh
                have hx : ∀ (k : IntKind) (i : Int) (y : Nat) (c : BoundsCode), 0 ≤ i → i ≤ y → (Instr.sliceBound (.int k i) y c).run P w = .ok i.toNat w := fun k i y c a b => run_sliceBound w k i y c a b
                cases l with
                | none =>
                  cases vl with
                  | some => exact rl.elim
                  | none => cases h with
                    | none =>
                      cases vh with
                      | some => exact rh.elim
                      | none => simp [Instr.slice, run_underlying hf.und, Instr.sliceBounds, slLo, slHi]
                    | some h =>
                      cases vh with
                      | none => exact rh.elim
                      | some u =>
                        obtain ⟨k, rfl⟩ := rh
                        simp only [slLo, slHi] at *
                        simp [Instr.slice, run_underlying hf.und, Instr.sliceBounds, hx _ h st.size _ (by omega) (by omega)]
                | some l =>
                  cases vl with
                  | none => exact rl.elim
                  | some u =>
                    obtain ⟨k, rfl⟩ := rl
                    cases h with
                    | none =>
                      cases vh with
                      | some => exact rh.elim
                      | none =>
                        simp only [slLo, slHi] at *
                        simp [Instr.slice, run_underlying hf.und, Instr.sliceBounds, hx _ l st.size _ (by omega) (by omega)]
                    | some h =>
                      cases vh with
                      | none => exact rh.elim
                      | some u =>
                        obtain ⟨k', rfl⟩ := rh
                        simp only [slLo, slHi] at *
                        simp [Instr.slice, run_underlying hf.und, Instr.sliceBounds, hx _ h st.size _ (by omega) (by omega), hx _ l h.toNat _ (by omega) (by omega)]
    case slice e =>
      have hd := hf.kslice hk
      subst hd
      have hel : P.elem t = e := by simp [Program.elem, hf.und]
      have hut : P.underlying t = some (.slice (P.elem t)) := by rw [hel]; exact hf.und
      simp only [sliceK] at he
      cases hie : te e with
      | none => rw [hie] at he; cases he
      | some ie =>
        rw [hie] at he
        obtain ⟨inf', d', z', hf'⟩ := hte.get hie
        simp only [sliceE] at he
        have hsize : ∀ w, (sizeOf (P.elem t)).run P w = .ok ie.size w := fun w => by rw [hel]; exact hf'.run_size w
        cases hol : optInt (ev s.T) lo with
        | none => cases ax <;> simp only [evSlice, hol] at he <;> first | (cases he; done) | (have := (ifo_some he).2; cases this)
        | some l =>
          cases hoh : optInt (ev s.T) hi with
          | none => cases ax <;> simp only [evSlice, hol, hoh] at he <;> first | (cases he; done) | (have := (ifo_some he).2; cases this)
          | some h =>
            cases hom : optInt (ev s.T) mx with
            | none => cases ax <;> simp only [evSlice, hol, hoh, hom] at he <;> first | (cases he; done) | (have := (ifo_some he).2; cases this)
            | some m =>
              have rl := optInt_rd hs lo hol
              have rh := optInt_rd hs hi hoh
              have rm := optInt_rd hs mx hom
              cases ax <;> simp only [evSlice, hol, hoh, hom] at he <;> try (cases he; done)
              case sl sz fr es =>
                obtain ⟨h1, h2⟩ := ifo_some he
                have := eqb_eq h1; subst this
                cases m with
                | none =>
                  have := retc_some h2; subst this
                  simp only [condK] at hc
                  obtain ⟨⟨c0, c1, c2⟩, _⟩ := hc
                  cases hmx : mx with
                  | some y => rw [hmx] at rm; exact rm.elim
                  | none =>
                    have hu' := hu
                    cases hu with
                    | sl _ _ _ _ A len cap cell hl hc' hx hfr hsz hcell hA hr =>
                      rw [hl] at c1 c2
                      refine ⟨rfl, _, run_slice_lh' t A len cap hut hsize l h _ _ rl rh c0 c1 (by omega), ?_⟩
                      rw [show es.length = len from hl]
                      exact hu'.part _ _ _ (by omega) (by omega) (by omega) (Nat.le_refl _) false (by simp)
                | some m =>
                  cases h with
                  | none => cases h2
                  | some h =>
                    have := retc_some h2; subst this
                    simp only [condK] at hc
                    obtain ⟨⟨c0, c1, c2, c3⟩, _⟩ := hc
                    have hu' := hu
                    cases hu with
                    | sl _ _ _ _ A len cap cell hl hc' hx hfr hsz hcell hA hr =>
                      rw [hl] at c3
                      refine ⟨rfl, _, run_slice_m' t A len cap hut hsize l h m _ _ _ rl rh rm c0 c1 c2 (by omega), ?_⟩
                      exact hu'.part _ _ _ (by omega) (by omega) (by omega) (by omega) _ (fun hsc => by rw [sameConst_eq hsc hoh hom])
              case own q ver len =>
                obtain ⟨h1, h2⟩ := ifo_some he
                have hszq := esz1_get hs.mem h1
                cases hu with
                | own _ _ _ _ A cap hp hver hcp hA hr =>
                  cases m with
                  | none =>
                    cases hmx : mx with
                    | some y => rw [hmx] at rm; exact rm.elim
                    | none =>
                      cases h2
                      simp only [condK] at hc
                      obtain ⟨⟨c0, c1, c2⟩, _⟩ := hc
                      refine ⟨rfl, _, run_slice_lh' t A len cap hut hsize l h _ _ rl rh c0 c1 (by omega), ?_⟩
                      refine .osub _ _ _ _ _ _ _ hp hver (by omega) ?_ ?_
                      · intro h0
                        have := hA (by omega)
                        cases A with
                        | none => cases this
                        | some A => split <;> rfl
                      · intro hv
                        obtain ⟨k1, k2⟩ := hr hv
                        refine ⟨by omega, fun h0 => ?_⟩
                        rw [if_neg (by omega), k2 (by omega)]
                        simp only [Option.map_some, Addr.add_lit, hszq, Nat.zero_add]
                  | some m =>
                    cases h with
                    | none => cases h2
                    | some h =>
                      have := retc_some h2; subst this
                      simp only [condK] at hc
                      obtain ⟨⟨c0, c1, c2, c3⟩, _⟩ := hc
                      exact ⟨rfl, _, run_slice_m' t A len cap hut hsize l h m _ _ _ rl rh rm c0 c1 c2 (by omega), .junk _ _⟩
              case osub q ver off len =>
                obtain ⟨h1, h2⟩ := ifo_some he
                have hszq := esz1_get hs.mem h1
                cases hu with
                | osub _ _ _ _ _ A cap hp hver hcp hA hr =>
                  cases m with
                  | none =>
                    cases hmx : mx with
                    | some y => rw [hmx] at rm; exact rm.elim
                    | none =>
                      cases h2
                      simp only [condK] at hc
                      obtain ⟨⟨c0, c1, c2⟩, _⟩ := hc
                      obtain ⟨l1, l2⟩ := lim_cap hs.mem hcp hA hr
                      refine ⟨rfl, _, run_slice_lh' t A len cap hut hsize l h _ _ rl rh c0 c1 (by omega), ?_⟩
                      refine .osub _ _ _ _ _ _ _ hp hver (by omega) ?_ ?_
                      · intro h0
                        have := l2 (by omega)
                        cases A with
                        | none => cases this
                        | some A => split <;> rfl
                      · intro hv
                        obtain ⟨k1, k2⟩ := hr hv
                        refine ⟨by omega, fun h0 => ?_⟩
                        rw [if_neg (by omega), k2 (by omega)]
                        simp only [Option.map_some, Addr.add_lit, hszq]
                        rw [Nat.add_mul]
                  | some m => cases h2

end
end Go.Rf
