/-
  LIBRARY FUNCTIONS, part 6: slices.Delete and slices.Insert give what they should.
-/
import Derived.Test.YtdojencjbmahpaaGreatDoorRhG
import Derived.IntWalk
set_option linter.unusedVariables false
set_option linter.unusedSimpArgs false
set_option maxHeartbeats 4000000
namespace Go.Rf

theorem del_list (es W : List (List AV)) (a b : Nat) (hab : a ≤ b) (hb : b ≤ es.length) (hW : ∀ k, (W.take k).length ≤ k) :
    (es.take a ++ (es.drop b).take (es.length - b) ++ es.drop (a + ((es.drop b).take (es.length - b)).length)).take (a + (es.length - b)) = es.take a ++ es.drop b := by
  have h1 : (es.drop b).take (es.length - b) = es.drop b := List.take_of_length_le (by simp)
  rw [h1]
  have h2 : (es.take a ++ es.drop b).length = a + (es.length - b) := by simp; omega
  rw [List.take_append_of_le_length (by omega), List.take_of_length_le (by omega)]

theorem delF_lend (te : TE) (ty el sz byt v : Nat) (i j : Int) (es es' : List (List AV)) (h0 : 0 ≤ i) (h1 : i ≤ j) (h2 : j ≤ (es.length : Int)) (he : es' = es.take i.toNat ++ es.drop j.toNat) :
    delF te ty el sz byt v i j es (LendR sz es') := by
  obtain ⟨a, rfl⟩ := Int.eq_ofNat_of_zero_le h0
  obtain ⟨b, rfl⟩ := Int.eq_ofNat_of_zero_le (Int.le_trans h0 h1)
  have hab : a ≤ b := by omega
  have hb : b ≤ es.length := by omega
  simp only [Int.toNat_natCast] at he
  have e1 : rd1 te el sz a b es = a := by simp [rd1]
  have e2 : rd2 te el sz a b es = es.length - b := by simp [rd2]
  have e3 : rd3 te el sz a b es = es.drop b := by simp only [rd3, e2, Int.toNat_natCast, Nat.zero_add]; exact List.take_of_length_le (by simp)
  have e5 : rd5 te el sz a b es = a + (es.length - b) := by simp [rd5, e1, e3]
  have e4 : rd4 te el sz a b es = es.take a ++ es.drop b ++ es.drop (a + (es.length - b)) := by simp [rd4, e1, e3]
  have e4l : (rd4 te el sz a b es).length = es.length := by rw [e4]; simp; omega
  have e6 : rd6 te el sz a b es = ((a + (es.length - b) : Nat) : Int) := by simp [rd6, e5]
  have e7 : rd7 te el sz a b es = a + (es.length - b) := by simp [rd7, e6]; omega
  have e8 : rd8 te el sz a b es = es.length - (a + (es.length - b)) := by simp [rd8, e6]; omega
  unfold delF
  refine ⟨⟨by omega, by omega, by omega, by omega⟩, ifB_both (fun hb' => ?_) (fun _ => ?_)⟩
  · have : a = b := by have := eq_of_beq hb'; omega
    subst this
    refine ⟨0, v, es.length, none, es, rfl, ?_, ?_, .inl rfl⟩
    · rw [he, List.take_length, List.take_append_drop]
    · rw [he, List.take_append_drop]
  · refine ⟨⟨by omega, by omega, by omega⟩, ⟨by omega, by omega, by omega⟩, .inl ⟨⟨⟨rfl, ?_⟩, fits_self _ _, rfl, rfl, ?_⟩, ⟨by rw [e6]; omega, by rw [e6]; omega, ?_⟩, ⟨rfl, ?_⟩, ?_⟩⟩
    · rw [e2]; simp; omega
    · rw [e1, e3]; simp; omega
    · rw [limE_self _ _ _ _ _ _ _ (by rw [e5, e4l]; omega), e4l]; omega
    · rw [e7, e8, e4l]; omega
    · refine ⟨0, v, _, none, _, rfl, ?_, ?_, .inr rfl⟩
      · rw [he]
        simp only [rd9, e7, e8, e4, e5]
        have hl : (es.take a ++ es.drop b).length = a + (es.length - b) := by simp; omega
        rw [List.take_append_of_le_length (by simp; omega), List.take_append_of_le_length (by simp; omega), List.take_append_of_le_length (by omega), List.take_of_length_le (by simp; omega), List.take_of_length_le (by omega)]
      · rw [he, e5]; simp; omega

theorem insF_lend (te : TE) (ty el sz byt v : Nat) (hsz : 0 < sz) (i : Int) (fr : Bool) (es vs es' : List (List AV)) (h0 : 0 ≤ i) (h1 : i ≤ (es.length : Int)) (hbig : es.length + vs.length ≤ 1000000) (hbyt : byt ≤ 1000) (he : es' = es.take i.toNat ++ vs ++ es.drop i.toNat) :
    insF te ty el sz byt v i sz fr es vs (LendR sz es') := by
  obtain ⟨a, rfl⟩ := Int.eq_ofNat_of_zero_le h0
  have ha : a ≤ es.length := by omega
  simp only [Int.toNat_natCast] at he
  have hroom : ∀ n, n ≤ 1000000 → n * byt ≤ 140737488355328 := fun n hn => by
    have := Nat.mul_le_mul hn hbyt
    omega
  have r2 : ri2 te el sz a es vs = ((es.length + vs.length : Nat) : Int) := by rw [ri2, IntWalk.i64_in _ (by omega)]; omega
  have r3 : ri3 te el sz a es vs = 0 := rfl
  have r4 : ri4 te el sz a es vs = a := by simp [ri4]
  have r5 : ri5 te el sz a es vs = ((es.length + vs.length - a : Nat) : Int) := by rw [ri5, r2, IntWalk.i64_in _ (by omega)]; omega
  have r6 : ri6 te el sz a es vs = List.replicate (es.length + vs.length - a) (zr te el) := by rw [ri6, r5]; simp
  have r6l : (ri6 te el sz a es vs).length = es.length + vs.length - a := by rw [r6]; simp
  have r8 : ri8 te el sz a es vs = es.length + vs.length := by rw [ri8, r4, r6l]; omega
  have r9 : ri9 te el sz a es vs = es.length + vs.length - a := by rw [ri9, r8]; simp; omega
  have r10 : ri10 te el sz a es vs = vs.length := by rw [ri10, r9]; omega
  have r13 : ri13 te el sz a es vs = ((a + vs.length : Nat) : Int) := by rw [ri13, IntWalk.i64_in _ (by omega)]; omega
  have r14 : ri14 te el sz a es vs = a + vs.length := by rw [ri14, r13]; simp; omega
  have r0 : ri0 te el sz a es vs = es.length - a := by simp [ri0]
  have r15 : ri15 te el sz a es vs = es.length - a := by rw [ri15, r8, r13]; simp; omega
  have r20 : ri20 te el sz a es vs = es.take a ++ List.replicate (es.length + vs.length - a) (zr te el) := by rw [ri20, r4, r6]
  have r20l : (ri20 te el sz a es vs).length = es.length + vs.length := by rw [r20]; simp; omega
  have r21 : ri21 te el sz a es vs = es.take a ++ vs ++ (ri20 te el sz a es vs).drop (a + vs.length) := by
    rw [ri21, r10]
    simp only [Int.toNat_natCast, Nat.zero_add]
    rw [show (ri20 te el sz a es vs).take a = es.take a by rw [r20, List.take_append_of_le_length (by simp; omega), List.take_of_length_le (by simp; omega)], List.take_length]
  have r21l : (ri21 te el sz a es vs).length = es.length + vs.length := by rw [r21]; simp [r20l]; omega
  have r22 : ri22 te el sz a es vs = es.drop a := by rw [ri22, r0]; simp only [Int.toNat_natCast, Nat.zero_add]; exact List.take_of_length_le (by simp)
  have r23 : ri23 te el sz a es vs = es.length - a := by rw [ri23, r22, r15]; simp
  have r24 : ri24 te el sz a es vs = es' := by
    rw [ri24, r14, r23, r22]
    have t1 : (ri21 te el sz a es vs).take (a + vs.length) = es.take a ++ vs := by
      rw [r21, List.take_append_of_le_length (by simp; omega), List.take_of_length_le (by simp; omega)]
    rw [t1, show (es.drop a).take (es.length - a) = es.drop a from List.take_of_length_le (by simp), List.drop_of_length_le (show (ri21 te el sz a es vs).length ≤ a + vs.length + (es.length - a) by rw [r21l]; omega), he]
    simp
  have r50 : ri50 te el sz a es vs = es ++ List.replicate vs.length (List.replicate sz .junk) := by
    rw [ri50, r2]
    congr 2
    omega
  have r50l : (ri50 te el sz a es vs).length = es.length + vs.length := by rw [r50]; simp
  have r51 : ri51 te el sz a es vs = es.length + vs.length := by rw [ri51, r2]; exact Int.toNat_natCast _
  have r52 : ri52 te el sz a es vs = es.length - a := by rw [ri52, r51, r13]; simp; omega
  have r53 : ri53 te el sz a es vs = es.length + vs.length - a := by rw [ri53, r51]; simp; omega
  have r54 : ri54 te el sz a es vs = (ri50 te el sz a es vs).drop a := by rw [ri54, r53]; simp only [Int.toNat_natCast, Nat.zero_add]; exact List.take_of_length_le (by rw [List.length_drop, r50l]; omega)
  have r55 : ri55 te el sz a es vs = es.length - a := by rw [ri55, r54, r52, List.length_drop, r50l]; omega
  have r56 : ri56 te el sz a es vs = (ri50 te el sz a es vs).take (a + vs.length) ++ es.drop a := by
    rw [ri56, r14, r55, r54, List.drop_of_length_le (show (ri50 te el sz a es vs).length ≤ a + vs.length + (es.length - a) by rw [r50l]; omega), List.append_nil]
    congr 1
    rw [r50, List.drop_append_of_le_length ha, List.take_append_of_le_length (by simp), List.take_of_length_le (by simp)]
  have r56l : (ri56 te el sz a es vs).length = es.length + vs.length := by rw [r56]; simp [r50l]; omega
  have r58 : ri58 te el sz a es vs = vs.length := by rw [ri58, r53]; omega
  have r59 : ri59 te el sz a es vs = es' := by
    rw [ri59, r58]
    simp only [Int.toNat_natCast, Nat.zero_add]
    have t1 : (ri56 te el sz a es vs).take a = es.take a := by
      rw [r56, List.take_append_of_le_length (by rw [List.length_take, r50l]; omega), List.take_take, r50, Nat.min_eq_left (by omega), List.take_append_of_le_length ha]
    have t2 : (ri56 te el sz a es vs).drop (a + vs.length) = es.drop a := by
      rw [r56, List.drop_append_of_le_length (by rw [List.length_take, r50l]; omega), List.drop_of_length_le (by rw [List.length_take]; omega), List.nil_append]
    rw [t1, t2, List.take_length, he]
  have hlen' : es'.length = es.length + vs.length := by rw [he]; simp; omega
  unfold insF
  refine ⟨⟨by omega, by omega, by omega⟩, ifB_both (fun hm => ?_) (fun hm => ifB_both (fun hi => ?_) (fun hi => ?_))⟩
  · have : vs = [] := by
      have := eq_of_beq hm
      exact List.eq_nil_of_length_eq_zero (by omega)
    subst this
    refine ⟨0, v, es.length, none, es, rfl, ?_, ?_, .inl rfl⟩
    · rw [he, List.take_length]; simp
    · rw [hlen']; simp
  · have : a = es.length := by have := eq_of_beq hi; omega
    subst this
    refine ⟨⟨fits_self _ _, rfl, rfl, hroom _ (by omega)⟩, 0, v + 1, _, none, _, rfl, ?_, ?_, .inl rfl⟩
    · simp only [ri1]
      rw [he, List.take_of_length_le (by simp)]
      simp
    · simp only [ri1]; rw [hlen']
  · refine ⟨⟨rfl, rfl⟩, fun C hC hC63 => ifB_both (fun hg => ?_) (fun hg => ?_)⟩
    · have hg : C < es.length + vs.length := by rw [not_leI] at hg; have := of_decide_eq_true hg; rw [r2] at this; omega
      refine .inl ⟨⟨by omega, by omega, by omega⟩, .inr ⟨⟨⟨by rw [r5]; omega, by rw [r5]; have := hroom (es.length + vs.length - a) (by omega); omega⟩, fits_self _ _, rfl, rfl, by rw [r4]; exact ha, by rw [r4, r6l]; omega, hroom _ (by rw [r4, r6l]; omega)⟩, ⟨by omega, by rw [r8]; omega, by omega⟩, ⟨fits_self _ _, rfl, by rw [r9, r20l]; simp; omega⟩, ⟨by rw [r13]; omega, by rw [r13, r8]; omega, by omega⟩, ⟨by omega, by omega, by omega⟩, ⟨⟨rfl, by rw [r0]; simp; omega⟩, fits_self _ _, rfl, by rw [r14, r15, r21l]; omega⟩, ?_⟩⟩
      exact ⟨1, 1, _, none, _, rfl, by rw [r8, r24, ← hlen', List.take_length], by rw [r8, hlen'], .inl rfl⟩
    · have hg : es.length + vs.length ≤ C := by rw [not_leI] at hg; have := of_decide_eq_false hg; rw [r2] at this; omega
      have hov : ∀ off len, ovOK [rty te ty (.sl sz fr vs), .osub 0 v off len] [.arr true v sz (some C) (ri50 te el sz a es vs)] := by
        intro off len
        cases sz with
        | zero => omega
        | succ sz => exact rfl
      refine .inr ⟨⟨rfl, rfl, by rw [r2]; omega, by rw [r2]; omega⟩, ⟨by rw [r13]; omega, by rw [r13, r51]; omega, by omega⟩, hov _ _, ⟨by rw [r13]; omega, by rw [r13, r51]; omega, by omega⟩, ⟨by omega, by rw [r51]; omega, by omega⟩, ⟨⟨rfl, by rw [r53, r50l]; simp; omega⟩, fits_self _ _, rfl, by rw [r14, r52, r50l]; omega⟩, ⟨by omega, by rw [r51]; omega, by omega⟩, ⟨fits_self _ _, rfl, by rw [r53, r56l]; simp; omega⟩, ?_⟩
      exact ⟨0, v, _, some C, _, rfl, by rw [r51, r59, ← hlen', List.take_length], by rw [r51, hlen'], .inl rfl⟩

end Go.Rf
