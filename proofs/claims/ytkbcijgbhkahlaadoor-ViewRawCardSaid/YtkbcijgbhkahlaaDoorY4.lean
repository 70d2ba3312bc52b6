/- Texts joined: Aj Ak Al Am An Ao Ap. -/
import Derived.Test.YtkbcijgbhkahlaaDoorY3
set_option linter.unusedVariables false
set_option linter.unusedSimpArgs false
set_option maxHeartbeats 20000000
set_option maxRecDepth 100000
namespace Go.X
open Go.Proofs.Tryd (prog)

def rdB (s : List UInt8) (left : Int) (x : Lf) : Blk := .cells 49 [[txt s, .int .i64 left, .int .i64 0, x]] 0
def cutc (c : UInt8) (s : List UInt8) : List UInt8 := if s.head? = some c then s.tail else s
theorem sign_spec (s : List UInt8) (left : Int) (x : Lf) (c : UInt8) (id : Nat) (M : Mem) (hM : M id = some (rdB s left x)) :
    XCalls Go.Proofs.Tryd.prog 39 [.l (.ptr id 0 0), .l (txt [c])] M fun r M' => r = .l (.bool (decide (s.head? = some c))) ∧ M' = M.set id (rdB (cutc c s) left x) := by
  refine xcalls_intro (rs := [.tmp 4]) Go.Proofs.Tryd.func39 rfl (by kernel_rfl) rfl rfl (by kernel_rfl) (by simp) ?_
  rw [rdB, txt] at hM
  simp -implicitDefEqProofs (maxSteps := 1000000) (disch := omega) only [↓xsP, ↓vc_seq, xsQ, xsT, xsR, xsD, ↓reduceIte, reduceCtorEq, eq_self, ne_eq, imp_self, forall_const, Nat.reduceEqDiff, Nat.reduceAdd, Nat.reduceSub, Nat.reduceMul, Nat.reduceLT, Nat.reduceLeDiff, Nat.reduceBEq, Nat.reduceDiv, Nat.reduceMod, Int.reduceToNat, Int.reduceNeg, Int.reduceAdd, Int.reduceSub, Int.reduceMul, Int.reduceEq, Int.reduceNe, Int.reduceLT, Int.reduceLE, Int.reduceGT, Int.reduceGE, hM, txt]
  refine callI_of ((cut_spec s c _).mono ?_)
  rintro _ _ ⟨rfl, rfl⟩
  simp -implicitDefEqProofs (maxSteps := 1000000) (disch := omega) only [↓xsP, ↓vc_seq, xsQ, xsT, xsR, xsD, ↓reduceIte, reduceCtorEq, eq_self, ne_eq, imp_self, forall_const, Nat.reduceEqDiff, Nat.reduceAdd, Nat.reduceSub, Nat.reduceMul, Nat.reduceLT, Nat.reduceLeDiff, Nat.reduceBEq, Nat.reduceDiv, Nat.reduceMod, Int.reduceToNat, Int.reduceNeg, Int.reduceAdd, Int.reduceSub, Int.reduceMul, Int.reduceEq, Int.reduceNe, Int.reduceLT, Int.reduceLE, Int.reduceGT, Int.reduceGE, hM, txt]
  exact fin_ok (Mem.le_refl _) ⟨rfl, rfl⟩
def Tk (a : List UInt8) : Prop := a = [] ∨ ∃ c r, a = c :: r ∧ (c = 45 ∨ dg c = true) ∧ ∀ d ∈ r, dg d = true
theorem tok_at {a b : List UInt8} (h : Tk a) (h0 : a = [] → ∀ c, b.head? = some c → c ≠ 45 ∧ dg c = false) (h1 : a ≠ [] → nd b) : tok (a ++ b) = a := by
  rcases h with rfl | ⟨c, r, rfl, hc, hr⟩
  · cases b with
    | nil => rfl
    | cons c r =>
      obtain ⟨g1, g2⟩ := h0 rfl c rfl
      rw [List.nil_append, tok, if_neg g1, List.takeWhile_cons, if_neg (by rw [g2]; decide)]
  · have hb := h1 (by simp)
    rw [List.cons_append, tok]
    split
    · rename_i e
      rw [takeWhile_nd hr hb, e]
    · rename_i e
      have hc' : dg c = true := hc.resolve_left e
      rw [← List.cons_append, takeWhile_nd (fun d hd => ?_) hb]
      rcases List.mem_cons.1 hd with rfl | hd
      · exact hc'
      · exact hr d hd
theorem Tk.snoc {a : List UInt8} {c : UInt8} (h : Tk a) (hc : dg c = true ∨ (a = [] ∧ c = 45)) : Tk (a ++ [c]) := by
  rcases h with rfl | ⟨d, r, rfl, hd, hr⟩
  · refine .inr ⟨c, [], rfl, ?_, fun d hd => by cases hd⟩
    rcases hc with hc | ⟨_, hc⟩
    · exact .inr hc
    · exact .inl hc
  · have hc' : dg c = true := hc.resolve_right fun h => by cases h.1
    refine .inr ⟨d, r ++ [c], rfl, hd, fun x hx => ?_⟩
    rcases List.mem_append.1 hx with hx | hx
    · exact hr x hx
    · rw [List.mem_singleton.1 hx]; exact hc'
theorem number_spec (s : List UInt8) (hs : s.length ≤ 1000000) (left : Int) (x : Lf) (id : Nat) (M : Mem) (hM : M id = some (rdB s left x)) :
    XCalls Go.Proofs.Tryd.prog 56 [.l (.ptr id 0 0)] M fun r M' => M' = M.set id (rdB (s.drop (tok s).length) left x) ∧
      ((∃ v, NumAt s v (s.drop (tok s).length) ∧ r = .tup [.l (.int .i64 v), .l (.bool true)]) ∨ ((∀ v t, ¬ NumAt s v t) ∧ ∃ n, r = .tup [.l (.int .i64 n), .l (.bool false)])) := by
  refine xcalls_intro (rs := [.tmp 2, .tmp 3]) Go.Proofs.Tryd.func56 rfl (by kernel_rfl) rfl rfl (by kernel_rfl) (by simp) ?_
  rw [rdB, txt] at hM
  simp -implicitDefEqProofs (maxSteps := 1000000) (disch := omega) only [↓xsP, ↓vc_seq, xsQ, xsT, xsR, xsD, ↓reduceIte, reduceCtorEq, eq_self, ne_eq, imp_self, forall_const, Nat.reduceEqDiff, Nat.reduceAdd, Nat.reduceSub, Nat.reduceMul, Nat.reduceLT, Nat.reduceLeDiff, Nat.reduceBEq, Nat.reduceDiv, Nat.reduceMod, Int.reduceToNat, Int.reduceNeg, Int.reduceAdd, Int.reduceSub, Int.reduceMul, Int.reduceEq, Int.reduceNe, Int.reduceLT, Int.reduceLE, Int.reduceGT, Int.reduceGE]
  refine loopI_of (xloop (by kernel_rfl) (fun k fr M2 => ∃ i : Nat, i ≤ s.length ∧ k = s.length - i ∧ Tk (s.take i) ∧ fr 0 = .l (.ptr id 0 0) ∧ fr 4 = .l (.int .i64 i) ∧ M2 = M) s.length ?_ ?_)
  · exact ⟨0, Nat.zero_le _, rfl, .inl rfl, by simp -implicitDefEqProofs (maxSteps := 1000000) (disch := omega) only [↓xsP, ↓vc_seq, xsQ, xsT, xsR, xsD, ↓reduceIte, reduceCtorEq, eq_self, ne_eq, imp_self, forall_const, Nat.reduceEqDiff, Nat.reduceAdd, Nat.reduceSub, Nat.reduceMul, Nat.reduceLT, Nat.reduceLeDiff, Nat.reduceBEq, Nat.reduceDiv, Nat.reduceMod, Int.reduceToNat, Int.reduceNeg, Int.reduceAdd, Int.reduceSub, Int.reduceMul, Int.reduceEq, Int.reduceNe, Int.reduceLT, Int.reduceLE, Int.reduceGT, Int.reduceGE], by simp -implicitDefEqProofs (maxSteps := 1000000) (disch := omega) only [↓xsP, ↓vc_seq, xsQ, xsT, xsR, xsD, ↓reduceIte, reduceCtorEq, eq_self, ne_eq, imp_self, forall_const, Nat.reduceEqDiff, Nat.reduceAdd, Nat.reduceSub, Nat.reduceMul, Nat.reduceLT, Nat.reduceLeDiff, Nat.reduceBEq, Nat.reduceDiv, Nat.reduceMod, Int.reduceToNat, Int.reduceNeg, Int.reduceAdd, Int.reduceSub, Int.reduceMul, Int.reduceEq, Int.reduceNe, Int.reduceLT, Int.reduceLE, Int.reduceGT, Int.reduceGE, Int.cast_ofNat_Int], rfl⟩
  rintro k fr M2 ⟨i, hi, rfl, htk, f0, f4, rfl⟩
  have hend : tok s = s.take i → True := fun _ => trivial
  simp -implicitDefEqProofs (maxSteps := 1000000) (disch := omega) only [↓xsP, ↓vc_seq, xsQ, xsT, xsR, xsD, ↓reduceIte, reduceCtorEq, eq_self, ne_eq, imp_self, forall_const, Nat.reduceEqDiff, Nat.reduceAdd, Nat.reduceSub, Nat.reduceMul, Nat.reduceLT, Nat.reduceLeDiff, Nat.reduceBEq, Nat.reduceDiv, Nat.reduceMod, Int.reduceToNat, Int.reduceNeg, Int.reduceAdd, Int.reduceSub, Int.reduceMul, Int.reduceEq, Int.reduceNe, Int.reduceLT, Int.reduceLE, Int.reduceGT, Int.reduceGE, f0, f4, hM, ba_size]
  by_cases hil : i < s.length
  rotate_left
  · have q1 : decide ((i : Int) < (s.length : Int)) = false := decide_eq_false (by omega)
    simp -implicitDefEqProofs (maxSteps := 1000000) (disch := omega) only [↓xsP, ↓vc_seq, xsQ, xsT, xsR, xsD, ↓reduceIte, reduceCtorEq, eq_self, ne_eq, imp_self, forall_const, Nat.reduceEqDiff, Nat.reduceAdd, Nat.reduceSub, Nat.reduceMul, Nat.reduceLT, Nat.reduceLeDiff, Nat.reduceBEq, Nat.reduceDiv, Nat.reduceMod, Int.reduceToNat, Int.reduceNeg, Int.reduceAdd, Int.reduceSub, Int.reduceMul, Int.reduceEq, Int.reduceNe, Int.reduceLT, Int.reduceLE, Int.reduceGT, Int.reduceGE, f0, f4, hM, ba_size, q1]
    have hk : tok s = s.take i := by
      have hii : i = s.length := by omega
      rw [hii, List.take_of_length_le (Nat.le_refl _)] at htk ⊢
      have := tok_at (b := []) htk (fun _ c h => by cases h) (fun _ c h => by cases h)
      rwa [List.append_nil] at this
    have hkl : (tok s).length = i := by rw [hk, List.length_take]; omega
    have i0 : (0 ≤ (i : Int)) = True := eq_true (by omega)
    have il : (i ≤ s.length) = True := eq_true hi
    have ill : (s.length : Nat) ≤ s.length := Nat.le_refl _
    simp -implicitDefEqProofs (maxSteps := 1000000) (disch := omega) only [↓xsP, ↓vc_seq, xsQ, xsT, xsR, xsD, ↓reduceIte, reduceCtorEq, eq_self, ne_eq, imp_self, forall_const, Nat.reduceEqDiff, Nat.reduceAdd, Nat.reduceSub, Nat.reduceMul, Nat.reduceLT, Nat.reduceLeDiff, Nat.reduceBEq, Nat.reduceDiv, Nat.reduceMod, Int.reduceToNat, Int.reduceNeg, Int.reduceAdd, Int.reduceSub, Int.reduceMul, Int.reduceEq, Int.reduceNe, Int.reduceLT, Int.reduceLE, Int.reduceGT, Int.reduceGE, f0, f4, hM, ba_size, ba_ext, i0, il]
    refine callI_of ((atoi_spec (s.take i) (by rw [List.length_take]; omega) _).mono ?_)
    rintro _ _ ⟨rfl, h | h⟩
    · obtain ⟨v, ha, rfl⟩ := h
      have hvb := Lib.atoiAll_bounds ha
      simp -implicitDefEqProofs (maxSteps := 1000000) (disch := omega) only [↓xsP, ↓vc_seq, xsQ, xsT, xsR, xsD, ↓reduceIte, reduceCtorEq, eq_self, ne_eq, imp_self, forall_const, Nat.reduceEqDiff, Nat.reduceAdd, Nat.reduceSub, Nat.reduceMul, Nat.reduceLT, Nat.reduceLeDiff, Nat.reduceBEq, Nat.reduceDiv, Nat.reduceMod, Int.reduceToNat, Int.reduceNeg, Int.reduceAdd, Int.reduceSub, Int.reduceMul, Int.reduceEq, Int.reduceNe, Int.reduceLT, Int.reduceLE, Int.reduceGT, Int.reduceGE, f0, f4, hM, ba_size, ba_ext, i0, il]
      refine xquiet (by kernel_rfl) (by kernel_rfl) (by kernel_rfl) ?_
      simp -implicitDefEqProofs (maxSteps := 1000000) (disch := omega) only [↓xsP, ↓vc_seq, xsQ, xsT, xsR, xsD, ↓reduceIte, reduceCtorEq, eq_self, ne_eq, imp_self, forall_const, Nat.reduceEqDiff, Nat.reduceAdd, Nat.reduceSub, Nat.reduceMul, Nat.reduceLT, Nat.reduceLeDiff, Nat.reduceBEq, Nat.reduceDiv, Nat.reduceMod, Int.reduceToNat, Int.reduceNeg, Int.reduceAdd, Int.reduceSub, Int.reduceMul, Int.reduceEq, Int.reduceNe, Int.reduceLT, Int.reduceLE, Int.reduceGT, Int.reduceGE, f0, f4, hM, ba_size, ba_ext, i0, il]
      refine dcallI_of (itoa_spec v hvb.1 hvb.2 _) ?_
      simp -implicitDefEqProofs (maxSteps := 1000000) (disch := omega) only [↓xsP, ↓vc_seq, xsQ, xsT, xsR, xsD, ↓reduceIte, reduceCtorEq, eq_self, ne_eq, imp_self, forall_const, Nat.reduceEqDiff, Nat.reduceAdd, Nat.reduceSub, Nat.reduceMul, Nat.reduceLT, Nat.reduceLeDiff, Nat.reduceBEq, Nat.reduceDiv, Nat.reduceMod, Int.reduceToNat, Int.reduceNeg, Int.reduceAdd, Int.reduceSub, Int.reduceMul, Int.reduceEq, Int.reduceNe, Int.reduceLT, Int.reduceLE, Int.reduceGT, Int.reduceGE, f0, f4, hM, ba_size, ba_ext, i0, il, txt, ba_eq]
      have hfin : (s.drop i).take (s.length - i) = s.drop i := List.take_of_length_le (by rw [List.length_drop]; exact Nat.le_refl _)
      rw [hfin]
      refine fin_ok (Mem.le_refl _) ⟨by rw [hkl]; rfl, ?_⟩
      by_cases he : Lib.itoa v = s.take i
      · refine .inl ⟨v, numAt_iff.2 ⟨by rw [hk]; exact ha, by rw [hk]; exact he, rfl⟩, ?_⟩
        rw [decide_eq_true he]
      · refine .inr ⟨fun v' t' hn => ?_, v, ?_⟩
        · obtain ⟨g1, g2, g3⟩ := numAt_iff.1 hn
          rw [hk, ha] at g1
          injection g1 with g1
          rw [g1] at he
          exact he (g2.trans hk)
        · rw [decide_eq_false he]
    · obtain ⟨ha, n, d, v, rfl⟩ := h
      simp -implicitDefEqProofs (maxSteps := 1000000) (disch := omega) only [↓xsP, ↓vc_seq, xsQ, xsT, xsR, xsD, ↓reduceIte, reduceCtorEq, eq_self, ne_eq, imp_self, forall_const, Nat.reduceEqDiff, Nat.reduceAdd, Nat.reduceSub, Nat.reduceMul, Nat.reduceLT, Nat.reduceLeDiff, Nat.reduceBEq, Nat.reduceDiv, Nat.reduceMod, Int.reduceToNat, Int.reduceNeg, Int.reduceAdd, Int.reduceSub, Int.reduceMul, Int.reduceEq, Int.reduceNe, Int.reduceLT, Int.reduceLE, Int.reduceGT, Int.reduceGE, f0, f4, hM, ba_size, ba_ext, i0, il]
      refine xquiet (by kernel_rfl) (by kernel_rfl) (by kernel_rfl) ?_
      simp -implicitDefEqProofs (maxSteps := 1000000) (disch := omega) only [↓xsP, ↓vc_seq, xsQ, xsT, xsR, xsD, ↓reduceIte, reduceCtorEq, eq_self, ne_eq, imp_self, forall_const, Nat.reduceEqDiff, Nat.reduceAdd, Nat.reduceSub, Nat.reduceMul, Nat.reduceLT, Nat.reduceLeDiff, Nat.reduceBEq, Nat.reduceDiv, Nat.reduceMod, Int.reduceToNat, Int.reduceNeg, Int.reduceAdd, Int.reduceSub, Int.reduceMul, Int.reduceEq, Int.reduceNe, Int.reduceLT, Int.reduceLE, Int.reduceGT, Int.reduceGE, f0, f4, hM, ba_size, ba_ext, i0, il]
      have hfin : (s.drop i).take (s.length - i) = s.drop i := List.take_of_length_le (by rw [List.length_drop]; exact Nat.le_refl _)
      rw [hfin]
      refine fin_ok (Mem.le_refl _) ⟨by rw [hkl]; rfl, .inr ⟨fun v' t' hn => ?_, n, rfl⟩⟩
      obtain ⟨g1, g2, g3⟩ := numAt_iff.1 hn
      rw [hk] at g1
      exact ha v' g1
  have q1 : decide ((i : Int) < (s.length : Int)) = true := decide_eq_true (by omega)
  obtain ⟨c, hc⟩ : ∃ c, s[i]? = some c := ⟨_, List.getElem?_eq_getElem hil⟩
  have i00 : (0 ≤ (i : Int)) = True := eq_true (by omega)
  have hci : s.toArray[i]? = some c := by rw [List.getElem?_toArray]; exact hc
  have hsplit : s = s.take i ++ c :: s.drop (i + 1) := by
    obtain ⟨h1, h2⟩ := List.getElem?_eq_some_iff.1 hc
    rw [← h2, ← List.drop_eq_getElem_cons, List.take_append_drop]
  have htk1 : s.take (i + 1) = s.take i ++ [c] := by
    obtain ⟨h1, h2⟩ := List.getElem?_eq_some_iff.1 hc
    rw [List.take_add_one, hc]
    rfl
  simp -implicitDefEqProofs (maxSteps := 1000000) (disch := omega) only [↓xsP, ↓vc_seq, xsQ, xsT, xsR, xsD, ↓reduceIte, reduceCtorEq, eq_self, ne_eq, imp_self, forall_const, Nat.reduceEqDiff, Nat.reduceAdd, Nat.reduceSub, Nat.reduceMul, Nat.reduceLT, Nat.reduceLeDiff, Nat.reduceBEq, Nat.reduceDiv, Nat.reduceMod, Int.reduceToNat, Int.reduceNeg, Int.reduceAdd, Int.reduceSub, Int.reduceMul, Int.reduceEq, Int.reduceNe, Int.reduceLT, Int.reduceLE, Int.reduceGT, Int.reduceGE, f0, f4, hM, ba_size, ba_get, hci, q1, i00]
  have hgo : (dg c = true ∨ (s.take i = [] ∧ c = 45)) → ∃ k' M', k' < s.length - i ∧ M'.le M2 ∧ ∃ j : Nat, j ≤ s.length ∧ k' = s.length - j ∧ Tk (s.take j) ∧ AV.l (.int .i64 ((i : Int) + 1)) = .l (.int .i64 j) ∧ M' = M2 := fun hd => by
    refine ⟨s.length - (i + 1), M2, by omega, Mem.le_refl _, i + 1, by omega, rfl, ?_, by simp, rfl⟩
    rw [htk1]
    exact htk.snoc hd
  by_cases d1 : 48 ≤ c.toNat
  · have w1 : decide ((c.toNat : Int) ≥ 48) = true := decide_eq_true (by omega)
    by_cases d2 : c.toNat ≤ 57
    · have w2 : decide ((c.toNat : Int) ≤ 57) = true := decide_eq_true (by omega)
      simp -implicitDefEqProofs (maxSteps := 1000000) (disch := omega) only [↓xsP, ↓vc_seq, xsQ, xsT, xsR, xsD, ↓reduceIte, reduceCtorEq, eq_self, ne_eq, imp_self, forall_const, Nat.reduceEqDiff, Nat.reduceAdd, Nat.reduceSub, Nat.reduceMul, Nat.reduceLT, Nat.reduceLeDiff, Nat.reduceBEq, Nat.reduceDiv, Nat.reduceMod, Int.reduceToNat, Int.reduceNeg, Int.reduceAdd, Int.reduceSub, Int.reduceMul, Int.reduceEq, Int.reduceNe, Int.reduceLT, Int.reduceLE, Int.reduceGT, Int.reduceGE, f0, f4, hM, ba_size, ba_get, hci, q1, i00, w1, w2]
      exact hgo (.inl (dg_iff.2 ⟨d1, d2⟩))
    · have w2 : decide ((c.toNat : Int) ≤ 57) = false := decide_eq_false (by omega)
      simp -implicitDefEqProofs (maxSteps := 1000000) (disch := omega) only [↓xsP, ↓vc_seq, xsQ, xsT, xsR, xsD, ↓reduceIte, reduceCtorEq, eq_self, ne_eq, imp_self, forall_const, Nat.reduceEqDiff, Nat.reduceAdd, Nat.reduceSub, Nat.reduceMul, Nat.reduceLT, Nat.reduceLeDiff, Nat.reduceBEq, Nat.reduceDiv, Nat.reduceMod, Int.reduceToNat, Int.reduceNeg, Int.reduceAdd, Int.reduceSub, Int.reduceMul, Int.reduceEq, Int.reduceNe, Int.reduceLT, Int.reduceLE, Int.reduceGT, Int.reduceGE, f0, f4, hM, ba_size, ba_get, hci, q1, i00, w1, w2]
      have hdg : dg c = false := by
        rw [dg, decide_eq_false d2]
        simp
      by_cases h0 : i = 0
      · have w0 : decide ((i : Int) = 0) = true := decide_eq_true (by omega)
        have hi0 := h0
        have hci0 : s.toArray[0]? = some c := by rw [← h0]; exact hci
        simp -implicitDefEqProofs (maxSteps := 1000000) (disch := omega) only [↓xsP, ↓vc_seq, xsQ, xsT, xsR, xsD, ↓reduceIte, reduceCtorEq, eq_self, ne_eq, imp_self, forall_const, Nat.reduceEqDiff, Nat.reduceAdd, Nat.reduceSub, Nat.reduceMul, Nat.reduceLT, Nat.reduceLeDiff, Nat.reduceBEq, Nat.reduceDiv, Nat.reduceMod, Int.reduceToNat, Int.reduceNeg, Int.reduceAdd, Int.reduceSub, Int.reduceMul, Int.reduceEq, Int.reduceNe, Int.reduceLT, Int.reduceLE, Int.reduceGT, Int.reduceGE, f0, f4, hM, ba_size, ba_get, hci0, q1, i00, w0, w1, w2]
        by_cases d3 : c = 45
        · have w3 : decide ((c.toNat : Int) = 45) = true := decide_eq_true (by rw [d3]; rfl)
          simp -implicitDefEqProofs (maxSteps := 1000000) (disch := omega) only [↓xsP, ↓vc_seq, xsQ, xsT, xsR, xsD, ↓reduceIte, reduceCtorEq, eq_self, ne_eq, imp_self, forall_const, Nat.reduceEqDiff, Nat.reduceAdd, Nat.reduceSub, Nat.reduceMul, Nat.reduceLT, Nat.reduceLeDiff, Nat.reduceBEq, Nat.reduceDiv, Nat.reduceMod, Int.reduceToNat, Int.reduceNeg, Int.reduceAdd, Int.reduceSub, Int.reduceMul, Int.reduceEq, Int.reduceNe, Int.reduceLT, Int.reduceLE, Int.reduceGT, Int.reduceGE, f0, f4, hM, ba_size, ba_get, hci0, q1, i00, w0, w3, w1, w2]
          exact hgo (.inr ⟨by rw [h0]; rfl, d3⟩)
        · have w3 : decide ((c.toNat : Int) = 45) = false := decide_eq_false fun h => d3 (UInt8.toNat_inj.1 (by show c.toNat = 45; omega))
          simp -implicitDefEqProofs (maxSteps := 1000000) (disch := omega) only [↓xsP, ↓vc_seq, xsQ, xsT, xsR, xsD, ↓reduceIte, reduceCtorEq, eq_self, ne_eq, imp_self, forall_const, Nat.reduceEqDiff, Nat.reduceAdd, Nat.reduceSub, Nat.reduceMul, Nat.reduceLT, Nat.reduceLeDiff, Nat.reduceBEq, Nat.reduceDiv, Nat.reduceMod, Int.reduceToNat, Int.reduceNeg, Int.reduceAdd, Int.reduceSub, Int.reduceMul, Int.reduceEq, Int.reduceNe, Int.reduceLT, Int.reduceLE, Int.reduceGT, Int.reduceGE, f0, f4, hM, ba_size, ba_get, hci0, q1, i00, w0, w3, w1, w2]
          have hk : tok s = s.take i := by
            rw [h0]
            have := tok_at (a := []) (b := s) (.inl rfl) (fun _ d hd => by
              rw [hsplit, h0] at hd
              simp only [List.take_zero, List.nil_append, List.head?_cons, Option.some.injEq] at hd
              rw [← hd]
              exact ⟨d3, hdg⟩) (fun h => absurd rfl h)
            exact this
          have hkl : (tok s).length = i := by rw [hk, List.length_take]; omega
          have i0 : (0 ≤ (i : Int)) = True := eq_true (by omega)
          have il : (i ≤ s.length) = True := eq_true hi
          have ill : (s.length : Nat) ≤ s.length := Nat.le_refl _
          simp -implicitDefEqProofs (maxSteps := 1000000) (disch := omega) only [↓xsP, ↓vc_seq, xsQ, xsT, xsR, xsD, ↓reduceIte, reduceCtorEq, eq_self, ne_eq, imp_self, forall_const, Nat.reduceEqDiff, Nat.reduceAdd, Nat.reduceSub, Nat.reduceMul, Nat.reduceLT, Nat.reduceLeDiff, Nat.reduceBEq, Nat.reduceDiv, Nat.reduceMod, Int.reduceToNat, Int.reduceNeg, Int.reduceAdd, Int.reduceSub, Int.reduceMul, Int.reduceEq, Int.reduceNe, Int.reduceLT, Int.reduceLE, Int.reduceGT, Int.reduceGE, f0, f4, hM, ba_size, ba_ext, i0, il]
          refine callI_of ((atoi_spec (s.take i) (by rw [List.length_take]; omega) _).mono ?_)
          rintro _ _ ⟨rfl, h | h⟩
          · obtain ⟨v, ha, rfl⟩ := h
            have hvb := Lib.atoiAll_bounds ha
            simp -implicitDefEqProofs (maxSteps := 1000000) (disch := omega) only [↓xsP, ↓vc_seq, xsQ, xsT, xsR, xsD, ↓reduceIte, reduceCtorEq, eq_self, ne_eq, imp_self, forall_const, Nat.reduceEqDiff, Nat.reduceAdd, Nat.reduceSub, Nat.reduceMul, Nat.reduceLT, Nat.reduceLeDiff, Nat.reduceBEq, Nat.reduceDiv, Nat.reduceMod, Int.reduceToNat, Int.reduceNeg, Int.reduceAdd, Int.reduceSub, Int.reduceMul, Int.reduceEq, Int.reduceNe, Int.reduceLT, Int.reduceLE, Int.reduceGT, Int.reduceGE, f0, f4, hM, ba_size, ba_ext, i0, il]
            refine xquiet (by kernel_rfl) (by kernel_rfl) (by kernel_rfl) ?_
            simp -implicitDefEqProofs (maxSteps := 1000000) (disch := omega) only [↓xsP, ↓vc_seq, xsQ, xsT, xsR, xsD, ↓reduceIte, reduceCtorEq, eq_self, ne_eq, imp_self, forall_const, Nat.reduceEqDiff, Nat.reduceAdd, Nat.reduceSub, Nat.reduceMul, Nat.reduceLT, Nat.reduceLeDiff, Nat.reduceBEq, Nat.reduceDiv, Nat.reduceMod, Int.reduceToNat, Int.reduceNeg, Int.reduceAdd, Int.reduceSub, Int.reduceMul, Int.reduceEq, Int.reduceNe, Int.reduceLT, Int.reduceLE, Int.reduceGT, Int.reduceGE, f0, f4, hM, ba_size, ba_ext, i0, il]
            refine dcallI_of (itoa_spec v hvb.1 hvb.2 _) ?_
            simp -implicitDefEqProofs (maxSteps := 1000000) (disch := omega) only [↓xsP, ↓vc_seq, xsQ, xsT, xsR, xsD, ↓reduceIte, reduceCtorEq, eq_self, ne_eq, imp_self, forall_const, Nat.reduceEqDiff, Nat.reduceAdd, Nat.reduceSub, Nat.reduceMul, Nat.reduceLT, Nat.reduceLeDiff, Nat.reduceBEq, Nat.reduceDiv, Nat.reduceMod, Int.reduceToNat, Int.reduceNeg, Int.reduceAdd, Int.reduceSub, Int.reduceMul, Int.reduceEq, Int.reduceNe, Int.reduceLT, Int.reduceLE, Int.reduceGT, Int.reduceGE, f0, f4, hM, ba_size, ba_ext, i0, il, txt, ba_eq]
            have hfin : (s.drop i).take (s.length - i) = s.drop i := List.take_of_length_le (by rw [List.length_drop]; exact Nat.le_refl _)
            rw [hfin]
            refine fin_ok (Mem.le_refl _) ⟨by rw [hkl]; rfl, ?_⟩
            by_cases he : Lib.itoa v = s.take i
            · refine .inl ⟨v, numAt_iff.2 ⟨by rw [hk]; exact ha, by rw [hk]; exact he, rfl⟩, ?_⟩
              rw [decide_eq_true he]
            · refine .inr ⟨fun v' t' hn => ?_, v, ?_⟩
              · obtain ⟨g1, g2, g3⟩ := numAt_iff.1 hn
                rw [hk, ha] at g1
                injection g1 with g1
                rw [g1] at he
                exact he (g2.trans hk)
              · rw [decide_eq_false he]
          · obtain ⟨ha, n, d, v, rfl⟩ := h
            simp -implicitDefEqProofs (maxSteps := 1000000) (disch := omega) only [↓xsP, ↓vc_seq, xsQ, xsT, xsR, xsD, ↓reduceIte, reduceCtorEq, eq_self, ne_eq, imp_self, forall_const, Nat.reduceEqDiff, Nat.reduceAdd, Nat.reduceSub, Nat.reduceMul, Nat.reduceLT, Nat.reduceLeDiff, Nat.reduceBEq, Nat.reduceDiv, Nat.reduceMod, Int.reduceToNat, Int.reduceNeg, Int.reduceAdd, Int.reduceSub, Int.reduceMul, Int.reduceEq, Int.reduceNe, Int.reduceLT, Int.reduceLE, Int.reduceGT, Int.reduceGE, f0, f4, hM, ba_size, ba_ext, i0, il]
            refine xquiet (by kernel_rfl) (by kernel_rfl) (by kernel_rfl) ?_
            simp -implicitDefEqProofs (maxSteps := 1000000) (disch := omega) only [↓xsP, ↓vc_seq, xsQ, xsT, xsR, xsD, ↓reduceIte, reduceCtorEq, eq_self, ne_eq, imp_self, forall_const, Nat.reduceEqDiff, Nat.reduceAdd, Nat.reduceSub, Nat.reduceMul, Nat.reduceLT, Nat.reduceLeDiff, Nat.reduceBEq, Nat.reduceDiv, Nat.reduceMod, Int.reduceToNat, Int.reduceNeg, Int.reduceAdd, Int.reduceSub, Int.reduceMul, Int.reduceEq, Int.reduceNe, Int.reduceLT, Int.reduceLE, Int.reduceGT, Int.reduceGE, f0, f4, hM, ba_size, ba_ext, i0, il]
            have hfin : (s.drop i).take (s.length - i) = s.drop i := List.take_of_length_le (by rw [List.length_drop]; exact Nat.le_refl _)
            rw [hfin]
            refine fin_ok (Mem.le_refl _) ⟨by rw [hkl]; rfl, .inr ⟨fun v' t' hn => ?_, n, rfl⟩⟩
            obtain ⟨g1, g2, g3⟩ := numAt_iff.1 hn
            rw [hk] at g1
            exact ha v' g1
      · have w0 : decide ((i : Int) = 0) = false := decide_eq_false (by omega)
        simp -implicitDefEqProofs (maxSteps := 1000000) (disch := omega) only [↓xsP, ↓vc_seq, xsQ, xsT, xsR, xsD, ↓reduceIte, reduceCtorEq, eq_self, ne_eq, imp_self, forall_const, Nat.reduceEqDiff, Nat.reduceAdd, Nat.reduceSub, Nat.reduceMul, Nat.reduceLT, Nat.reduceLeDiff, Nat.reduceBEq, Nat.reduceDiv, Nat.reduceMod, Int.reduceToNat, Int.reduceNeg, Int.reduceAdd, Int.reduceSub, Int.reduceMul, Int.reduceEq, Int.reduceNe, Int.reduceLT, Int.reduceLE, Int.reduceGT, Int.reduceGE, f0, f4, hM, ba_size, ba_get, hci, q1, i00, w0, w1, w2]
        have hk : tok s = s.take i := by
          have hne : s.take i ≠ [] := fun e => by
            have := congrArg List.length e
            rw [List.length_take, List.length_nil] at this
            omega
          have := tok_at (b := c :: s.drop (i + 1)) htk (fun e => absurd e hne) (fun _ d hd => by
            simp only [List.head?_cons, Option.some.injEq] at hd
            rw [← hd]
            exact hdg)
          rwa [← hsplit] at this
        have hkl : (tok s).length = i := by rw [hk, List.length_take]; omega
        have i0 : (0 ≤ (i : Int)) = True := eq_true (by omega)
        have il : (i ≤ s.length) = True := eq_true hi
        have ill : (s.length : Nat) ≤ s.length := Nat.le_refl _
        simp -implicitDefEqProofs (maxSteps := 1000000) (disch := omega) only [↓xsP, ↓vc_seq, xsQ, xsT, xsR, xsD, ↓reduceIte, reduceCtorEq, eq_self, ne_eq, imp_self, forall_const, Nat.reduceEqDiff, Nat.reduceAdd, Nat.reduceSub, Nat.reduceMul, Nat.reduceLT, Nat.reduceLeDiff, Nat.reduceBEq, Nat.reduceDiv, Nat.reduceMod, Int.reduceToNat, Int.reduceNeg, Int.reduceAdd, Int.reduceSub, Int.reduceMul, Int.reduceEq, Int.reduceNe, Int.reduceLT, Int.reduceLE, Int.reduceGT, Int.reduceGE, f0, f4, hM, ba_size, ba_ext, i0, il]
        refine callI_of ((atoi_spec (s.take i) (by rw [List.length_take]; omega) _).mono ?_)
        rintro _ _ ⟨rfl, h | h⟩
        · obtain ⟨v, ha, rfl⟩ := h
          have hvb := Lib.atoiAll_bounds ha
          simp -implicitDefEqProofs (maxSteps := 1000000) (disch := omega) only [↓xsP, ↓vc_seq, xsQ, xsT, xsR, xsD, ↓reduceIte, reduceCtorEq, eq_self, ne_eq, imp_self, forall_const, Nat.reduceEqDiff, Nat.reduceAdd, Nat.reduceSub, Nat.reduceMul, Nat.reduceLT, Nat.reduceLeDiff, Nat.reduceBEq, Nat.reduceDiv, Nat.reduceMod, Int.reduceToNat, Int.reduceNeg, Int.reduceAdd, Int.reduceSub, Int.reduceMul, Int.reduceEq, Int.reduceNe, Int.reduceLT, Int.reduceLE, Int.reduceGT, Int.reduceGE, f0, f4, hM, ba_size, ba_ext, i0, il]
          refine xquiet (by kernel_rfl) (by kernel_rfl) (by kernel_rfl) ?_
          simp -implicitDefEqProofs (maxSteps := 1000000) (disch := omega) only [↓xsP, ↓vc_seq, xsQ, xsT, xsR, xsD, ↓reduceIte, reduceCtorEq, eq_self, ne_eq, imp_self, forall_const, Nat.reduceEqDiff, Nat.reduceAdd, Nat.reduceSub, Nat.reduceMul, Nat.reduceLT, Nat.reduceLeDiff, Nat.reduceBEq, Nat.reduceDiv, Nat.reduceMod, Int.reduceToNat, Int.reduceNeg, Int.reduceAdd, Int.reduceSub, Int.reduceMul, Int.reduceEq, Int.reduceNe, Int.reduceLT, Int.reduceLE, Int.reduceGT, Int.reduceGE, f0, f4, hM, ba_size, ba_ext, i0, il]
          refine dcallI_of (itoa_spec v hvb.1 hvb.2 _) ?_
          simp -implicitDefEqProofs (maxSteps := 1000000) (disch := omega) only [↓xsP, ↓vc_seq, xsQ, xsT, xsR, xsD, ↓reduceIte, reduceCtorEq, eq_self, ne_eq, imp_self, forall_const, Nat.reduceEqDiff, Nat.reduceAdd, Nat.reduceSub, Nat.reduceMul, Nat.reduceLT, Nat.reduceLeDiff, Nat.reduceBEq, Nat.reduceDiv, Nat.reduceMod, Int.reduceToNat, Int.reduceNeg, Int.reduceAdd, Int.reduceSub, Int.reduceMul, Int.reduceEq, Int.reduceNe, Int.reduceLT, Int.reduceLE, Int.reduceGT, Int.reduceGE, f0, f4, hM, ba_size, ba_ext, i0, il, txt, ba_eq]
          have hfin : (s.drop i).take (s.length - i) = s.drop i := List.take_of_length_le (by rw [List.length_drop]; exact Nat.le_refl _)
          rw [hfin]
          refine fin_ok (Mem.le_refl _) ⟨by rw [hkl]; rfl, ?_⟩
          by_cases he : Lib.itoa v = s.take i
          · refine .inl ⟨v, numAt_iff.2 ⟨by rw [hk]; exact ha, by rw [hk]; exact he, rfl⟩, ?_⟩
            rw [decide_eq_true he]
          · refine .inr ⟨fun v' t' hn => ?_, v, ?_⟩
            · obtain ⟨g1, g2, g3⟩ := numAt_iff.1 hn
              rw [hk, ha] at g1
              injection g1 with g1
              rw [g1] at he
              exact he (g2.trans hk)
            · rw [decide_eq_false he]
        · obtain ⟨ha, n, d, v, rfl⟩ := h
          simp -implicitDefEqProofs (maxSteps := 1000000) (disch := omega) only [↓xsP, ↓vc_seq, xsQ, xsT, xsR, xsD, ↓reduceIte, reduceCtorEq, eq_self, ne_eq, imp_self, forall_const, Nat.reduceEqDiff, Nat.reduceAdd, Nat.reduceSub, Nat.reduceMul, Nat.reduceLT, Nat.reduceLeDiff, Nat.reduceBEq, Nat.reduceDiv, Nat.reduceMod, Int.reduceToNat, Int.reduceNeg, Int.reduceAdd, Int.reduceSub, Int.reduceMul, Int.reduceEq, Int.reduceNe, Int.reduceLT, Int.reduceLE, Int.reduceGT, Int.reduceGE, f0, f4, hM, ba_size, ba_ext, i0, il]
          refine xquiet (by kernel_rfl) (by kernel_rfl) (by kernel_rfl) ?_
          simp -implicitDefEqProofs (maxSteps := 1000000) (disch := omega) only [↓xsP, ↓vc_seq, xsQ, xsT, xsR, xsD, ↓reduceIte, reduceCtorEq, eq_self, ne_eq, imp_self, forall_const, Nat.reduceEqDiff, Nat.reduceAdd, Nat.reduceSub, Nat.reduceMul, Nat.reduceLT, Nat.reduceLeDiff, Nat.reduceBEq, Nat.reduceDiv, Nat.reduceMod, Int.reduceToNat, Int.reduceNeg, Int.reduceAdd, Int.reduceSub, Int.reduceMul, Int.reduceEq, Int.reduceNe, Int.reduceLT, Int.reduceLE, Int.reduceGT, Int.reduceGE, f0, f4, hM, ba_size, ba_ext, i0, il]
          have hfin : (s.drop i).take (s.length - i) = s.drop i := List.take_of_length_le (by rw [List.length_drop]; exact Nat.le_refl _)
          rw [hfin]
          refine fin_ok (Mem.le_refl _) ⟨by rw [hkl]; rfl, .inr ⟨fun v' t' hn => ?_, n, rfl⟩⟩
          obtain ⟨g1, g2, g3⟩ := numAt_iff.1 hn
          rw [hk] at g1
          exact ha v' g1
  · have w1 : decide ((c.toNat : Int) ≥ 48) = false := decide_eq_false (by omega)
    simp -implicitDefEqProofs (maxSteps := 1000000) (disch := omega) only [↓xsP, ↓vc_seq, xsQ, xsT, xsR, xsD, ↓reduceIte, reduceCtorEq, eq_self, ne_eq, imp_self, forall_const, Nat.reduceEqDiff, Nat.reduceAdd, Nat.reduceSub, Nat.reduceMul, Nat.reduceLT, Nat.reduceLeDiff, Nat.reduceBEq, Nat.reduceDiv, Nat.reduceMod, Int.reduceToNat, Int.reduceNeg, Int.reduceAdd, Int.reduceSub, Int.reduceMul, Int.reduceEq, Int.reduceNe, Int.reduceLT, Int.reduceLE, Int.reduceGT, Int.reduceGE, f0, f4, hM, ba_size, ba_get, hci, q1, i00, w1]
    have hdg : dg c = false := by
      rw [dg, decide_eq_false d1]
      simp
    by_cases h0 : i = 0
    · have w0 : decide ((i : Int) = 0) = true := decide_eq_true (by omega)
      have hi0 := h0
      have hci0 : s.toArray[0]? = some c := by rw [← h0]; exact hci
      simp -implicitDefEqProofs (maxSteps := 1000000) (disch := omega) only [↓xsP, ↓vc_seq, xsQ, xsT, xsR, xsD, ↓reduceIte, reduceCtorEq, eq_self, ne_eq, imp_self, forall_const, Nat.reduceEqDiff, Nat.reduceAdd, Nat.reduceSub, Nat.reduceMul, Nat.reduceLT, Nat.reduceLeDiff, Nat.reduceBEq, Nat.reduceDiv, Nat.reduceMod, Int.reduceToNat, Int.reduceNeg, Int.reduceAdd, Int.reduceSub, Int.reduceMul, Int.reduceEq, Int.reduceNe, Int.reduceLT, Int.reduceLE, Int.reduceGT, Int.reduceGE, f0, f4, hM, ba_size, ba_get, hci0, q1, i00, w0, w1]
      by_cases d3 : c = 45
      · have w3 : decide ((c.toNat : Int) = 45) = true := decide_eq_true (by rw [d3]; rfl)
        simp -implicitDefEqProofs (maxSteps := 1000000) (disch := omega) only [↓xsP, ↓vc_seq, xsQ, xsT, xsR, xsD, ↓reduceIte, reduceCtorEq, eq_self, ne_eq, imp_self, forall_const, Nat.reduceEqDiff, Nat.reduceAdd, Nat.reduceSub, Nat.reduceMul, Nat.reduceLT, Nat.reduceLeDiff, Nat.reduceBEq, Nat.reduceDiv, Nat.reduceMod, Int.reduceToNat, Int.reduceNeg, Int.reduceAdd, Int.reduceSub, Int.reduceMul, Int.reduceEq, Int.reduceNe, Int.reduceLT, Int.reduceLE, Int.reduceGT, Int.reduceGE, f0, f4, hM, ba_size, ba_get, hci0, q1, i00, w0, w3, w1]
        exact hgo (.inr ⟨by rw [h0]; rfl, d3⟩)
      · have w3 : decide ((c.toNat : Int) = 45) = false := decide_eq_false fun h => d3 (UInt8.toNat_inj.1 (by show c.toNat = 45; omega))
        simp -implicitDefEqProofs (maxSteps := 1000000) (disch := omega) only [↓xsP, ↓vc_seq, xsQ, xsT, xsR, xsD, ↓reduceIte, reduceCtorEq, eq_self, ne_eq, imp_self, forall_const, Nat.reduceEqDiff, Nat.reduceAdd, Nat.reduceSub, Nat.reduceMul, Nat.reduceLT, Nat.reduceLeDiff, Nat.reduceBEq, Nat.reduceDiv, Nat.reduceMod, Int.reduceToNat, Int.reduceNeg, Int.reduceAdd, Int.reduceSub, Int.reduceMul, Int.reduceEq, Int.reduceNe, Int.reduceLT, Int.reduceLE, Int.reduceGT, Int.reduceGE, f0, f4, hM, ba_size, ba_get, hci0, q1, i00, w0, w3, w1]
        have hk : tok s = s.take i := by
          rw [h0]
          have := tok_at (a := []) (b := s) (.inl rfl) (fun _ d hd => by
            rw [hsplit, h0] at hd
            simp only [List.take_zero, List.nil_append, List.head?_cons, Option.some.injEq] at hd
            rw [← hd]
            exact ⟨d3, hdg⟩) (fun h => absurd rfl h)
          exact this
        have hkl : (tok s).length = i := by rw [hk, List.length_take]; omega
        have i0 : (0 ≤ (i : Int)) = True := eq_true (by omega)
        have il : (i ≤ s.length) = True := eq_true hi
        have ill : (s.length : Nat) ≤ s.length := Nat.le_refl _
        simp -implicitDefEqProofs (maxSteps := 1000000) (disch := omega) only [↓xsP, ↓vc_seq, xsQ, xsT, xsR, xsD, ↓reduceIte, reduceCtorEq, eq_self, ne_eq, imp_self, forall_const, Nat.reduceEqDiff, Nat.reduceAdd, Nat.reduceSub, Nat.reduceMul, Nat.reduceLT, Nat.reduceLeDiff, Nat.reduceBEq, Nat.reduceDiv, Nat.reduceMod, Int.reduceToNat, Int.reduceNeg, Int.reduceAdd, Int.reduceSub, Int.reduceMul, Int.reduceEq, Int.reduceNe, Int.reduceLT, Int.reduceLE, Int.reduceGT, Int.reduceGE, f0, f4, hM, ba_size, ba_ext, i0, il]
        refine callI_of ((atoi_spec (s.take i) (by rw [List.length_take]; omega) _).mono ?_)
        rintro _ _ ⟨rfl, h | h⟩
        · obtain ⟨v, ha, rfl⟩ := h
          have hvb := Lib.atoiAll_bounds ha
          simp -implicitDefEqProofs (maxSteps := 1000000) (disch := omega) only [↓xsP, ↓vc_seq, xsQ, xsT, xsR, xsD, ↓reduceIte, reduceCtorEq, eq_self, ne_eq, imp_self, forall_const, Nat.reduceEqDiff, Nat.reduceAdd, Nat.reduceSub, Nat.reduceMul, Nat.reduceLT, Nat.reduceLeDiff, Nat.reduceBEq, Nat.reduceDiv, Nat.reduceMod, Int.reduceToNat, Int.reduceNeg, Int.reduceAdd, Int.reduceSub, Int.reduceMul, Int.reduceEq, Int.reduceNe, Int.reduceLT, Int.reduceLE, Int.reduceGT, Int.reduceGE, f0, f4, hM, ba_size, ba_ext, i0, il]
          refine xquiet (by kernel_rfl) (by kernel_rfl) (by kernel_rfl) ?_
          simp -implicitDefEqProofs (maxSteps := 1000000) (disch := omega) only [↓xsP, ↓vc_seq, xsQ, xsT, xsR, xsD, ↓reduceIte, reduceCtorEq, eq_self, ne_eq, imp_self, forall_const, Nat.reduceEqDiff, Nat.reduceAdd, Nat.reduceSub, Nat.reduceMul, Nat.reduceLT, Nat.reduceLeDiff, Nat.reduceBEq, Nat.reduceDiv, Nat.reduceMod, Int.reduceToNat, Int.reduceNeg, Int.reduceAdd, Int.reduceSub, Int.reduceMul, Int.reduceEq, Int.reduceNe, Int.reduceLT, Int.reduceLE, Int.reduceGT, Int.reduceGE, f0, f4, hM, ba_size, ba_ext, i0, il]
          refine dcallI_of (itoa_spec v hvb.1 hvb.2 _) ?_
          simp -implicitDefEqProofs (maxSteps := 1000000) (disch := omega) only [↓xsP, ↓vc_seq, xsQ, xsT, xsR, xsD, ↓reduceIte, reduceCtorEq, eq_self, ne_eq, imp_self, forall_const, Nat.reduceEqDiff, Nat.reduceAdd, Nat.reduceSub, Nat.reduceMul, Nat.reduceLT, Nat.reduceLeDiff, Nat.reduceBEq, Nat.reduceDiv, Nat.reduceMod, Int.reduceToNat, Int.reduceNeg, Int.reduceAdd, Int.reduceSub, Int.reduceMul, Int.reduceEq, Int.reduceNe, Int.reduceLT, Int.reduceLE, Int.reduceGT, Int.reduceGE, f0, f4, hM, ba_size, ba_ext, i0, il, txt, ba_eq]
          have hfin : (s.drop i).take (s.length - i) = s.drop i := List.take_of_length_le (by rw [List.length_drop]; exact Nat.le_refl _)
          rw [hfin]
          refine fin_ok (Mem.le_refl _) ⟨by rw [hkl]; rfl, ?_⟩
          by_cases he : Lib.itoa v = s.take i
          · refine .inl ⟨v, numAt_iff.2 ⟨by rw [hk]; exact ha, by rw [hk]; exact he, rfl⟩, ?_⟩
            rw [decide_eq_true he]
          · refine .inr ⟨fun v' t' hn => ?_, v, ?_⟩
            · obtain ⟨g1, g2, g3⟩ := numAt_iff.1 hn
              rw [hk, ha] at g1
              injection g1 with g1
              rw [g1] at he
              exact he (g2.trans hk)
            · rw [decide_eq_false he]
        · obtain ⟨ha, n, d, v, rfl⟩ := h
          simp -implicitDefEqProofs (maxSteps := 1000000) (disch := omega) only [↓xsP, ↓vc_seq, xsQ, xsT, xsR, xsD, ↓reduceIte, reduceCtorEq, eq_self, ne_eq, imp_self, forall_const, Nat.reduceEqDiff, Nat.reduceAdd, Nat.reduceSub, Nat.reduceMul, Nat.reduceLT, Nat.reduceLeDiff, Nat.reduceBEq, Nat.reduceDiv, Nat.reduceMod, Int.reduceToNat, Int.reduceNeg, Int.reduceAdd, Int.reduceSub, Int.reduceMul, Int.reduceEq, Int.reduceNe, Int.reduceLT, Int.reduceLE, Int.reduceGT, Int.reduceGE, f0, f4, hM, ba_size, ba_ext, i0, il]
          refine xquiet (by kernel_rfl) (by kernel_rfl) (by kernel_rfl) ?_
          simp -implicitDefEqProofs (maxSteps := 1000000) (disch := omega) only [↓xsP, ↓vc_seq, xsQ, xsT, xsR, xsD, ↓reduceIte, reduceCtorEq, eq_self, ne_eq, imp_self, forall_const, Nat.reduceEqDiff, Nat.reduceAdd, Nat.reduceSub, Nat.reduceMul, Nat.reduceLT, Nat.reduceLeDiff, Nat.reduceBEq, Nat.reduceDiv, Nat.reduceMod, Int.reduceToNat, Int.reduceNeg, Int.reduceAdd, Int.reduceSub, Int.reduceMul, Int.reduceEq, Int.reduceNe, Int.reduceLT, Int.reduceLE, Int.reduceGT, Int.reduceGE, f0, f4, hM, ba_size, ba_ext, i0, il]
          have hfin : (s.drop i).take (s.length - i) = s.drop i := List.take_of_length_le (by rw [List.length_drop]; exact Nat.le_refl _)
          rw [hfin]
          refine fin_ok (Mem.le_refl _) ⟨by rw [hkl]; rfl, .inr ⟨fun v' t' hn => ?_, n, rfl⟩⟩
          obtain ⟨g1, g2, g3⟩ := numAt_iff.1 hn
          rw [hk] at g1
          exact ha v' g1
    · have w0 : decide ((i : Int) = 0) = false := decide_eq_false (by omega)
      simp -implicitDefEqProofs (maxSteps := 1000000) (disch := omega) only [↓xsP, ↓vc_seq, xsQ, xsT, xsR, xsD, ↓reduceIte, reduceCtorEq, eq_self, ne_eq, imp_self, forall_const, Nat.reduceEqDiff, Nat.reduceAdd, Nat.reduceSub, Nat.reduceMul, Nat.reduceLT, Nat.reduceLeDiff, Nat.reduceBEq, Nat.reduceDiv, Nat.reduceMod, Int.reduceToNat, Int.reduceNeg, Int.reduceAdd, Int.reduceSub, Int.reduceMul, Int.reduceEq, Int.reduceNe, Int.reduceLT, Int.reduceLE, Int.reduceGT, Int.reduceGE, f0, f4, hM, ba_size, ba_get, hci, q1, i00, w0, w1]
      have hk : tok s = s.take i := by
        have hne : s.take i ≠ [] := fun e => by
          have := congrArg List.length e
          rw [List.length_take, List.length_nil] at this
          omega
        have := tok_at (b := c :: s.drop (i + 1)) htk (fun e => absurd e hne) (fun _ d hd => by
          simp only [List.head?_cons, Option.some.injEq] at hd
          rw [← hd]
          exact hdg)
        rwa [← hsplit] at this
      have hkl : (tok s).length = i := by rw [hk, List.length_take]; omega
      have i0 : (0 ≤ (i : Int)) = True := eq_true (by omega)
      have il : (i ≤ s.length) = True := eq_true hi
      have ill : (s.length : Nat) ≤ s.length := Nat.le_refl _
      simp -implicitDefEqProofs (maxSteps := 1000000) (disch := omega) only [↓xsP, ↓vc_seq, xsQ, xsT, xsR, xsD, ↓reduceIte, reduceCtorEq, eq_self, ne_eq, imp_self, forall_const, Nat.reduceEqDiff, Nat.reduceAdd, Nat.reduceSub, Nat.reduceMul, Nat.reduceLT, Nat.reduceLeDiff, Nat.reduceBEq, Nat.reduceDiv, Nat.reduceMod, Int.reduceToNat, Int.reduceNeg, Int.reduceAdd, Int.reduceSub, Int.reduceMul, Int.reduceEq, Int.reduceNe, Int.reduceLT, Int.reduceLE, Int.reduceGT, Int.reduceGE, f0, f4, hM, ba_size, ba_ext, i0, il]
      refine callI_of ((atoi_spec (s.take i) (by rw [List.length_take]; omega) _).mono ?_)
      rintro _ _ ⟨rfl, h | h⟩
      · obtain ⟨v, ha, rfl⟩ := h
        have hvb := Lib.atoiAll_bounds ha
        simp -implicitDefEqProofs (maxSteps := 1000000) (disch := omega) only [↓xsP, ↓vc_seq, xsQ, xsT, xsR, xsD, ↓reduceIte, reduceCtorEq, eq_self, ne_eq, imp_self, forall_const, Nat.reduceEqDiff, Nat.reduceAdd, Nat.reduceSub, Nat.reduceMul, Nat.reduceLT, Nat.reduceLeDiff, Nat.reduceBEq, Nat.reduceDiv, Nat.reduceMod, Int.reduceToNat, Int.reduceNeg, Int.reduceAdd, Int.reduceSub, Int.reduceMul, Int.reduceEq, Int.reduceNe, Int.reduceLT, Int.reduceLE, Int.reduceGT, Int.reduceGE, f0, f4, hM, ba_size, ba_ext, i0, il]
        refine xquiet (by kernel_rfl) (by kernel_rfl) (by kernel_rfl) ?_
        simp -implicitDefEqProofs (maxSteps := 1000000) (disch := omega) only [↓xsP, ↓vc_seq, xsQ, xsT, xsR, xsD, ↓reduceIte, reduceCtorEq, eq_self, ne_eq, imp_self, forall_const, Nat.reduceEqDiff, Nat.reduceAdd, Nat.reduceSub, Nat.reduceMul, Nat.reduceLT, Nat.reduceLeDiff, Nat.reduceBEq, Nat.reduceDiv, Nat.reduceMod, Int.reduceToNat, Int.reduceNeg, Int.reduceAdd, Int.reduceSub, Int.reduceMul, Int.reduceEq, Int.reduceNe, Int.reduceLT, Int.reduceLE, Int.reduceGT, Int.reduceGE, f0, f4, hM, ba_size, ba_ext, i0, il]
        refine dcallI_of (itoa_spec v hvb.1 hvb.2 _) ?_
        simp -implicitDefEqProofs (maxSteps := 1000000) (disch := omega) only [↓xsP, ↓vc_seq, xsQ, xsT, xsR, xsD, ↓reduceIte, reduceCtorEq, eq_self, ne_eq, imp_self, forall_const, Nat.reduceEqDiff, Nat.reduceAdd, Nat.reduceSub, Nat.reduceMul, Nat.reduceLT, Nat.reduceLeDiff, Nat.reduceBEq, Nat.reduceDiv, Nat.reduceMod, Int.reduceToNat, Int.reduceNeg, Int.reduceAdd, Int.reduceSub, Int.reduceMul, Int.reduceEq, Int.reduceNe, Int.reduceLT, Int.reduceLE, Int.reduceGT, Int.reduceGE, f0, f4, hM, ba_size, ba_ext, i0, il, txt, ba_eq]
        have hfin : (s.drop i).take (s.length - i) = s.drop i := List.take_of_length_le (by rw [List.length_drop]; exact Nat.le_refl _)
        rw [hfin]
        refine fin_ok (Mem.le_refl _) ⟨by rw [hkl]; rfl, ?_⟩
        by_cases he : Lib.itoa v = s.take i
        · refine .inl ⟨v, numAt_iff.2 ⟨by rw [hk]; exact ha, by rw [hk]; exact he, rfl⟩, ?_⟩
          rw [decide_eq_true he]
        · refine .inr ⟨fun v' t' hn => ?_, v, ?_⟩
          · obtain ⟨g1, g2, g3⟩ := numAt_iff.1 hn
            rw [hk, ha] at g1
            injection g1 with g1
            rw [g1] at he
            exact he (g2.trans hk)
          · rw [decide_eq_false he]
      · obtain ⟨ha, n, d, v, rfl⟩ := h
        simp -implicitDefEqProofs (maxSteps := 1000000) (disch := omega) only [↓xsP, ↓vc_seq, xsQ, xsT, xsR, xsD, ↓reduceIte, reduceCtorEq, eq_self, ne_eq, imp_self, forall_const, Nat.reduceEqDiff, Nat.reduceAdd, Nat.reduceSub, Nat.reduceMul, Nat.reduceLT, Nat.reduceLeDiff, Nat.reduceBEq, Nat.reduceDiv, Nat.reduceMod, Int.reduceToNat, Int.reduceNeg, Int.reduceAdd, Int.reduceSub, Int.reduceMul, Int.reduceEq, Int.reduceNe, Int.reduceLT, Int.reduceLE, Int.reduceGT, Int.reduceGE, f0, f4, hM, ba_size, ba_ext, i0, il]
        refine xquiet (by kernel_rfl) (by kernel_rfl) (by kernel_rfl) ?_
        simp -implicitDefEqProofs (maxSteps := 1000000) (disch := omega) only [↓xsP, ↓vc_seq, xsQ, xsT, xsR, xsD, ↓reduceIte, reduceCtorEq, eq_self, ne_eq, imp_self, forall_const, Nat.reduceEqDiff, Nat.reduceAdd, Nat.reduceSub, Nat.reduceMul, Nat.reduceLT, Nat.reduceLeDiff, Nat.reduceBEq, Nat.reduceDiv, Nat.reduceMod, Int.reduceToNat, Int.reduceNeg, Int.reduceAdd, Int.reduceSub, Int.reduceMul, Int.reduceEq, Int.reduceNe, Int.reduceLT, Int.reduceLE, Int.reduceGT, Int.reduceGE, f0, f4, hM, ba_size, ba_ext, i0, il]
        have hfin : (s.drop i).take (s.length - i) = s.drop i := List.take_of_length_le (by rw [List.length_drop]; exact Nat.le_refl _)
        rw [hfin]
        refine fin_ok (Mem.le_refl _) ⟨by rw [hkl]; rfl, .inr ⟨fun v' t' hn => ?_, n, rfl⟩⟩
        obtain ⟨g1, g2, g3⟩ := numAt_iff.1 hn
        rw [hk] at g1
        exact ha v' g1
end Go.X
set_option linter.unusedVariables false
set_option linter.unusedSimpArgs false
set_option maxHeartbeats 20000000
set_option maxRecDepth 100000
namespace Go.X
open Go.Proofs.Tryd (prog)

def PairAt (s : List UInt8) (p : Pr) (t : List UInt8) : Prop := ∃ u, NumAt s p.key (58 :: u) ∧ NumAt u p.val t
def PrsAt : Bool → List UInt8 → List Pr → List UInt8 → Prop
  | _, s, [], t => s = t
  | true, s, p :: r, t => ∃ u, PairAt s p u ∧ PrsAt false u r t
  | false, s, p :: r, t => ∃ w u, s = 44 :: w ∧ PairAt w p u ∧ PrsAt false u r t
def TreeAt : List UInt8 → Tr → List UInt8 → Prop
  | s, .leaf ps st, t => ∃ a u, s = 91 :: a ∧ PrsAt true a ps (124 :: u) ∧ NumAt u st (93 :: t)
  | s, .fork k l r, t => ∃ a b c, s = 40 :: a ∧ TreeAt a l (32 :: b) ∧ NumAt b k (32 :: c) ∧ TreeAt c r (41 :: t)
theorem pairAt_uniq {s : List UInt8} {p q : Pr} {t u : List UInt8} (h : PairAt s p t) (h' : PairAt s q u) : p = q ∧ t = u := by
  obtain ⟨a, h1, h2⟩ := h
  obtain ⟨b, g1, g2⟩ := h'
  obtain ⟨e1, e2⟩ := numAt_uniq h1 g1
  injection e2 with _ e2
  subst e2
  obtain ⟨e3, e4⟩ := numAt_uniq h2 g2
  exact ⟨(pr_eq p q).2 ⟨e1, e3⟩, e4⟩
theorem numAt_len {s : List UInt8} {v : Int} {t : List UInt8} (h : NumAt s v t) : t.length < s.length := by
  obtain ⟨_, h, _⟩ := h
  have := List.length_pos_iff.2 (itoa_ne v)
  rw [h, List.length_append]
  omega
theorem pairAt_len {s : List UInt8} {p : Pr} {t : List UInt8} (h : PairAt s p t) : t.length < s.length := by
  obtain ⟨u, h1, h2⟩ := h
  have a := numAt_len h1
  have b := numAt_len h2
  rw [List.length_cons] at a
  omega
theorem numAt_head {s : List UInt8} {v : Int} {t : List UInt8} (h : NumAt s v t) : ∃ c r, s = c :: r ∧ (c = 45 ∨ dg c = true) := by
  obtain ⟨_, h, _⟩ := h
  by_cases hv : v < 0
  · rw [itoa_neg hv] at h
    exact ⟨45, _, h, .inl rfl⟩
  · rw [itoa_nonneg hv] at h
    cases hd : Lib.decDigits v.toNat with
    | nil => exact absurd hd (decDigits_ne _)
    | cons c r =>
      rw [hd] at h
      exact ⟨c, _, h, .inr (dec_dg _ c (by rw [hd]; simp))⟩
theorem prsAt_124 {b : Bool} {s : List UInt8} {ps : List Pr} {t : List UInt8} (h : PrsAt b (124 :: s) ps t) : ps = [] ∧ 124 :: s = t := by
  cases ps with
  | nil => exact ⟨rfl, by cases b <;> exact h⟩
  | cons p r =>
    cases b with
    | true =>
      obtain ⟨u, ⟨w, h1, _⟩, _⟩ := h
      obtain ⟨c, q, e, hc⟩ := numAt_head h1
      injection e with e _
      subst e
      exact absurd hc (by decide)
    | false =>
      obtain ⟨w, u, e, _⟩ := h
      injection e with e _
      exact absurd e (by decide)
theorem pair_spec (s : List UInt8) (hs : s.length ≤ 1000000) (left : Int) (x : Lf) (id : Nat) (M : Mem) (hM : M id = some (rdB s left x)) :
    XCalls Go.Proofs.Tryd.prog 57 [.l (.ptr id 0 0)] M fun r M' => ∃ s', s'.length ≤ s.length ∧ M' = M.set id (rdB s' left x) ∧
      ((∃ p, PairAt s p s' ∧ r = .tup [.agg p.row, .l (.bool true)]) ∨ ((∀ p t, ¬ PairAt s p t) ∧ ∃ p : Pr, r = .tup [.agg p.row, .l (.bool false)])) := by
  refine xcalls_intro (rs := [.cell 2 79, .tmp 3]) Go.Proofs.Tryd.func57 rfl (by kernel_rfl) rfl rfl (by kernel_rfl) (by simp) ?_
  simp -implicitDefEqProofs (maxSteps := 1000000) (disch := omega) only [↓xsP, ↓vc_seq, xsQ, xsT, xsR, xsD, ↓reduceIte, reduceCtorEq, eq_self, ne_eq, imp_self, forall_const, Nat.reduceEqDiff, Nat.reduceAdd, Nat.reduceSub, Nat.reduceMul, Nat.reduceLT, Nat.reduceLeDiff, Nat.reduceBEq, Nat.reduceDiv, Nat.reduceMod, Int.reduceToNat, Int.reduceNeg, Int.reduceAdd, Int.reduceSub, Int.reduceMul, Int.reduceEq, Int.reduceNe, Int.reduceLT, Int.reduceLE, Int.reduceGT, Int.reduceGE]
  refine newI_intro fun id2 hid2 => ?_
  have k2 := lt_of_bnd hid2 hM
  obtain ⟨N, eN, hN2, hNi, hK⟩ : ∃ N, N = M.set id2 (.cells 79 [[.int .i64 0, .int .i64 0]] 0) ∧ N id2 = some (.cells 79 [[.int .i64 0, .int .i64 0]] 0) ∧ N id = some (rdB s left x) ∧ ∀ k bk, M k = some bk → k ≠ id → N k = some bk := ⟨_, rfl, Mem.set_eq _ _ _, by rw [Mem.set_ne _ _ _ _ (by omega)]; exact hM, fun k bk hk _ => le_new (Mem.le_refl _) hid2 _ _ hk⟩
  simp -implicitDefEqProofs (maxSteps := 1000000) (disch := omega) only [↓xsP, ↓vc_seq, xsQ, xsT, xsR, xsD, ↓reduceIte, reduceCtorEq, eq_self, ne_eq, imp_self, forall_const, Nat.reduceEqDiff, Nat.reduceAdd, Nat.reduceSub, Nat.reduceMul, Nat.reduceLT, Nat.reduceLeDiff, Nat.reduceBEq, Nat.reduceDiv, Nat.reduceMod, Int.reduceToNat, Int.reduceNeg, Int.reduceAdd, Int.reduceSub, Int.reduceMul, Int.reduceEq, Int.reduceNe, Int.reduceLT, Int.reduceLE, Int.reduceGT, Int.reduceGE]
  rw [← eN]
  clear eN
  have hne2 : id2 ≠ id := by omega
  have hM2 : M id2 = none := hid2 _ (Nat.le_refl _)
  clear hid2
  refine callI_of ((number_spec s hs left x id _ hNi).mono ?_)
  have hd1 : (s.drop (tok s).length).length ≤ s.length := by rw [List.length_drop]; omega
  obtain ⟨s1, hs1⟩ : ∃ s1, s.drop (tok s).length = s1 := ⟨_, rfl⟩
  rw [hs1] at hd1 ⊢
  have key : ∀ (N : Mem) (X Y Z : Blk), (∀ k bk, M k = some bk → k ≠ id → N k = some bk) → ∃ N', N' = ((N.set id X).set id2 Y) ∧ N' id = some X ∧ N' id2 = some Y ∧ ∀ k bk, M k = some bk → k ≠ id → N' k = some bk := fun N X Y Z h => by
    refine ⟨_, rfl, by rw [Mem.set_ne _ _ _ _ hne2, Mem.set_eq], Mem.set_eq _ _ _, fun k bk hk hne => ?_⟩
    rw [Mem.set_ne _ _ _ _ (fun e => by rw [← e, hM2] at hk; cases hk), Mem.set_ne _ _ _ _ (Ne.symm hne)]
    exact h _ _ hk hne
  have key1 : ∀ (N : Mem) (X : Blk) {Y : Blk}, N id2 = some Y → (∀ k bk, M k = some bk → k ≠ id → N k = some bk) → ∃ N', N' = (N.set id X) ∧ N' id = some X ∧ N' id2 = some Y ∧ ∀ k bk, M k = some bk → k ≠ id → N' k = some bk := fun N X Y hY h => by
    refine ⟨_, rfl, Mem.set_eq _ _ _, by rw [Mem.set_ne _ _ _ _ (Ne.symm hne2)]; exact hY, fun k bk hk hne => ?_⟩
    rw [Mem.set_ne _ _ _ _ (Ne.symm hne)]
    exact h _ _ hk hne
  have hfin : ∀ (N : Mem) (X : Blk), N id = some X → (∀ k bk, M k = some bk → k ≠ id → N k = some bk) → (M.set id X).le N := fun N X h1 h2 k bk hk => by
    rw [Mem.set_app] at hk
    split at hk
    · rename_i e
      rw [← e, h1]
      exact hk
    · rename_i e
      exact h2 _ _ hk (Ne.symm e)
  rintro _ _ ⟨rfl, ⟨v, hv, rfl⟩ | ⟨hno, n, rfl⟩⟩
  · obtain ⟨N1, eN1, hN1, hN12, hK1⟩ := key N (rdB s1 left x) (.cells 79 [[.int .i64 v, .int .i64 0]] 0) (.map []) hK
    simp -implicitDefEqProofs (maxSteps := 1000000) (disch := omega) only [↓xsP, ↓vc_seq, xsQ, xsT, xsR, xsD, ↓reduceIte, reduceCtorEq, eq_self, ne_eq, imp_self, forall_const, Nat.reduceEqDiff, Nat.reduceAdd, Nat.reduceSub, Nat.reduceMul, Nat.reduceLT, Nat.reduceLeDiff, Nat.reduceBEq, Nat.reduceDiv, Nat.reduceMod, Int.reduceToNat, Int.reduceNeg, Int.reduceAdd, Int.reduceSub, Int.reduceMul, Int.reduceEq, Int.reduceNe, Int.reduceLT, Int.reduceLE, Int.reduceGT, Int.reduceGE, hN2]
    rw [← eN1]
    clear eN1
    refine callI_of ((sign_spec s1 left x 58 id _ hN1).mono ?_)
    rintro _ _ ⟨rfl, rfl⟩
    obtain ⟨N2, eN2, hN2i, hN22, hK2⟩ := key1 N1 (rdB (cutc 58 s1) left x) hN12 hK1
    rw [← eN2]
    clear eN2
    have hcl : (cutc 58 s1).length ≤ s1.length := by
      rw [cutc]
      split
      · rw [List.length_tail]; omega
      · exact Nat.le_refl _
    by_cases h58 : s1.head? = some 58
    · rw [decide_eq_true h58]
      have hs58 : s1 = 58 :: cutc 58 s1 := by
        rw [cutc, if_pos h58]
        cases s1 with
        | nil => cases h58
        | cons c r =>
          simp only [List.head?_cons, Option.some.injEq] at h58
          rw [h58]
          rfl
      simp -implicitDefEqProofs (maxSteps := 1000000) (disch := omega) only [↓xsP, ↓vc_seq, xsQ, xsT, xsR, xsD, ↓reduceIte, reduceCtorEq, eq_self, ne_eq, imp_self, forall_const, Nat.reduceEqDiff, Nat.reduceAdd, Nat.reduceSub, Nat.reduceMul, Nat.reduceLT, Nat.reduceLeDiff, Nat.reduceBEq, Nat.reduceDiv, Nat.reduceMod, Int.reduceToNat, Int.reduceNeg, Int.reduceAdd, Int.reduceSub, Int.reduceMul, Int.reduceEq, Int.reduceNe, Int.reduceLT, Int.reduceLE, Int.reduceGT, Int.reduceGE]
      refine callI_of ((number_spec (cutc 58 s1) (by omega) left x id _ hN2i).mono ?_)
      have hd2 : ((cutc 58 s1).drop (tok (cutc 58 s1)).length).length ≤ (cutc 58 s1).length := by rw [List.length_drop]; omega
      obtain ⟨s2, hs2⟩ : ∃ s2, (cutc 58 s1).drop (tok (cutc 58 s1)).length = s2 := ⟨_, rfl⟩
      rw [hs2] at hd2 ⊢
      rintro _ _ ⟨rfl, ⟨v2, hv2, rfl⟩ | ⟨hno, n, rfl⟩⟩
      · obtain ⟨N3, eN3, hN3, hN32, hK3⟩ := key N2 (rdB s2 left x) (.cells 79 [[.int .i64 v, .int .i64 v2]] 0) (.map []) hK2
        simp -implicitDefEqProofs (maxSteps := 1000000) (disch := omega) only [↓xsP, ↓vc_seq, xsQ, xsT, xsR, xsD, ↓reduceIte, reduceCtorEq, eq_self, ne_eq, imp_self, forall_const, Nat.reduceEqDiff, Nat.reduceAdd, Nat.reduceSub, Nat.reduceMul, Nat.reduceLT, Nat.reduceLeDiff, Nat.reduceBEq, Nat.reduceDiv, Nat.reduceMod, Int.reduceToNat, Int.reduceNeg, Int.reduceAdd, Int.reduceSub, Int.reduceMul, Int.reduceEq, Int.reduceNe, Int.reduceLT, Int.reduceLE, Int.reduceGT, Int.reduceGE, hN22]
        rw [← eN3]
        clear eN3
        exact fin_ok (hfin _ _ hN3 hK3) ⟨s2, by omega, rfl, .inl ⟨⟨v, v2⟩, ⟨cutc 58 s1, by rw [← hs58]; exact hv, hv2⟩, rfl⟩⟩
      · obtain ⟨N3, eN3, hN3, hN32, hK3⟩ := key N2 (rdB s2 left x) (.cells 79 [[.int .i64 v, .int .i64 n]] 0) (.map []) hK2
        simp -implicitDefEqProofs (maxSteps := 1000000) (disch := omega) only [↓xsP, ↓vc_seq, xsQ, xsT, xsR, xsD, ↓reduceIte, reduceCtorEq, eq_self, ne_eq, imp_self, forall_const, Nat.reduceEqDiff, Nat.reduceAdd, Nat.reduceSub, Nat.reduceMul, Nat.reduceLT, Nat.reduceLeDiff, Nat.reduceBEq, Nat.reduceDiv, Nat.reduceMod, Int.reduceToNat, Int.reduceNeg, Int.reduceAdd, Int.reduceSub, Int.reduceMul, Int.reduceEq, Int.reduceNe, Int.reduceLT, Int.reduceLE, Int.reduceGT, Int.reduceGE, hN22]
        rw [← eN3]
        refine fin_ok (hfin _ _ hN3 hK3) ⟨s2, by omega, rfl, .inr ⟨fun p t ⟨u, g1, g2⟩ => ?_, ⟨v, n⟩, rfl⟩⟩
        have := (numAt_uniq g1 hv).2
        rw [hs58] at this
        injection this with _ this
        rw [this] at g2
        exact hno _ _ g2
    · rw [decide_eq_false h58]
      simp -implicitDefEqProofs (maxSteps := 1000000) (disch := omega) only [↓xsP, ↓vc_seq, xsQ, xsT, xsR, xsD, ↓reduceIte, reduceCtorEq, eq_self, ne_eq, imp_self, forall_const, Nat.reduceEqDiff, Nat.reduceAdd, Nat.reduceSub, Nat.reduceMul, Nat.reduceLT, Nat.reduceLeDiff, Nat.reduceBEq, Nat.reduceDiv, Nat.reduceMod, Int.reduceToNat, Int.reduceNeg, Int.reduceAdd, Int.reduceSub, Int.reduceMul, Int.reduceEq, Int.reduceNe, Int.reduceLT, Int.reduceLE, Int.reduceGT, Int.reduceGE, hN22]
      refine fin_ok (M' := M.set id (rdB (cutc 58 s1) left x)) (fun k bk hk => ?_) ⟨cutc 58 s1, by omega, rfl, .inr ⟨fun p t ⟨u, g1, g2⟩ => ?_, ⟨v, 0⟩, rfl⟩⟩
      · have h2 := hfin _ _ hN2i hK2 _ _ hk
        rw [Mem.set_ne _ _ _ _ (fun e => ?_)]
        · exact h2
        · rw [Mem.set_app] at hk
          split at hk
          · rename_i e2
            omega
          · rw [← e, hM2] at hk
            cases hk
      · have := (numAt_uniq g1 hv).2
        rw [← this] at h58
        exact h58 rfl
  · obtain ⟨N1, eN1, hN1, hN12, hK1⟩ := key N (rdB s1 left x) (.cells 79 [[.int .i64 n, .int .i64 0]] 0) (.map []) hK
    simp -implicitDefEqProofs (maxSteps := 1000000) (disch := omega) only [↓xsP, ↓vc_seq, xsQ, xsT, xsR, xsD, ↓reduceIte, reduceCtorEq, eq_self, ne_eq, imp_self, forall_const, Nat.reduceEqDiff, Nat.reduceAdd, Nat.reduceSub, Nat.reduceMul, Nat.reduceLT, Nat.reduceLeDiff, Nat.reduceBEq, Nat.reduceDiv, Nat.reduceMod, Int.reduceToNat, Int.reduceNeg, Int.reduceAdd, Int.reduceSub, Int.reduceMul, Int.reduceEq, Int.reduceNe, Int.reduceLT, Int.reduceLE, Int.reduceGT, Int.reduceGE, hN2]
    rw [← eN1]
    exact fin_ok (hfin _ _ hN1 hK1) ⟨s1, hd1, rfl, .inr ⟨fun p t ⟨u, g1, g2⟩ => hno _ _ g1, ⟨n, 0⟩, rfl⟩⟩
def LeafAt (s : List UInt8) (ps : List Pr) (st : Int) (t : List UInt8) : Prop := ∃ u, PrsAt true s ps (124 :: u) ∧ NumAt u st (93 :: t)
/-- So far ps have been read, and s is left. -/
def LInv (s0 : List UInt8) (ps : List Pr) (s : List UInt8) : Prop := ∀ qs t, PrsAt true s0 qs (124 :: t) ↔ ∃ rs, qs = ps ++ rs ∧ PrsAt (decide (ps = [])) s rs (124 :: t)
theorem LInv.start (s : List UInt8) : LInv s [] s := fun qs t => by simp
theorem LInv.done {s0 : List UInt8} {ps : List Pr} {u : List UInt8} (h : LInv s0 ps (124 :: u)) {qs : List Pr} {t : List UInt8} : PrsAt true s0 qs (124 :: t) ↔ qs = ps ∧ t = u := by
  rw [h qs t]
  constructor
  · rintro ⟨rs, rfl, h2⟩
    obtain ⟨rfl, e⟩ := prsAt_124 h2
    injection e with _ e
    exact ⟨List.append_nil _, e.symm⟩
  · rintro ⟨rfl, rfl⟩
    refine ⟨[], (List.append_nil _).symm, ?_⟩
    cases (decide (qs = [])) <;> rfl
theorem prsAt_ne {b : Bool} {s : List UInt8} {rs : List Pr} {t : List UInt8} (hs : s.head? ≠ some 124) (h : PrsAt b s rs (124 :: t)) : ∃ p r, rs = p :: r := by
  cases rs with
  | nil =>
    have : s = 124 :: t := by cases b <;> exact h
    rw [this] at hs
    exact absurd rfl hs
  | cons p r => exact ⟨p, r, rfl⟩
/-- The next pair is read. -/
theorem LInv.step {s0 : List UInt8} {ps : List Pr} {s w u : List UInt8} {p : Pr} (h : LInv s0 ps s) (hs : s.head? ≠ some 124) (hw : if ps = [] then w = s else s = 44 :: w) (hp : PairAt w p u) : LInv s0 (ps ++ [p]) u := fun qs t => by
  rw [h qs t]
  constructor
  · rintro ⟨rs, rfl, h2⟩
    obtain ⟨q, r, rfl⟩ := prsAt_ne hs h2
    by_cases e : ps = []
    · rw [if_pos e] at hw
      rw [decide_eq_true e] at h2
      obtain ⟨u', g1, g2⟩ := h2
      rw [hw] at hp
      obtain ⟨rfl, rfl⟩ := pairAt_uniq g1 hp
      exact ⟨r, by simp, by rw [decide_eq_false (by simp)]; exact g2⟩
    · rw [if_neg e] at hw
      rw [decide_eq_false e] at h2
      obtain ⟨w', u', g0, g1, g2⟩ := h2
      rw [hw] at g0
      injection g0 with _ g0
      subst g0
      obtain ⟨rfl, rfl⟩ := pairAt_uniq g1 hp
      exact ⟨r, by simp, by rw [decide_eq_false (by simp)]; exact g2⟩
  · rintro ⟨rs, rfl, h2⟩
    rw [decide_eq_false (by simp)] at h2
    refine ⟨p :: rs, by simp, ?_⟩
    by_cases e : ps = []
    · rw [if_pos e] at hw
      rw [decide_eq_true e]
      exact ⟨u, by rw [← hw]; exact hp, h2⟩
    · rw [if_neg e] at hw
      rw [decide_eq_false e]
      exact ⟨w, u, hw, hp, h2⟩
theorem LInv.none {s0 : List UInt8} {ps : List Pr} {s : List UInt8} (h : LInv s0 ps s) (hs : s.head? ≠ some 124) (hno : ∀ w p u, (if ps = [] then w = s else s = 44 :: w) → ¬ PairAt w p u) : ∀ qs st t, ¬ LeafAt s0 qs st t := fun qs st t ⟨u, h1, _⟩ => by
  obtain ⟨rs, -, h2⟩ := (h qs u).1 h1
  obtain ⟨q, r, rfl⟩ := prsAt_ne hs h2
  by_cases e : ps = []
  · rw [decide_eq_true e] at h2
    obtain ⟨u', g1, g2⟩ := h2
    exact hno s q u' (by rw [if_pos e]) g1
  · rw [decide_eq_false e] at h2
    obtain ⟨w', u', g0, g1, g2⟩ := h2
    exact hno w' q u' (by rw [if_neg e]; exact g0) g1
end Go.X
set_option linter.unusedVariables false
set_option linter.unusedSimpArgs false
set_option maxHeartbeats 20000000
set_option maxRecDepth 100000
namespace Go.X
open Go.Proofs.Tryd (prog)

theorem leaf_fin {N N0 M' : Mem} {xp : Lf} {ps : List Pr} {st : Int} {b : Bool} {K : AV → Mem → Prop} (hsb : SB 79 N xp (ps.map Pr.row) N0) (hle : M'.le N0) (h : K (.tup [.agg (leafN ps st).row, .l (.bool b)]) M') :
    @finI Go.Proofs.Tryd.prog (.tup [.agg [.bool false, .int .i64 0, .int .i64 0, .int .i64 0, xp, .int .i64 st], .l (.bool b)]) N ⟨K⟩ := by
  generalize hr : ps.map Pr.row = rows at hsb
  cases hsb with
  | nil =>
    have : ps = [] := List.map_eq_nil_iff.1 hr
    subst this
    exact finI_of (XFin.wk (XFin.le hle h))
  | @ms idp _ hM =>
    refine finI_of (XFin.frz idp hM (XFin.le (M' := M') (fun k bk hk => ?_) ?_))
    · have := hle _ _ hk
      rw [Mem.del_app] at this
      split at this
      · cases this
      · rename_i e
        rw [Mem.set_ne _ _ _ _ e]
        exact this
    · simp only [frzA, frz1, frzL, List.map_cons, List.map_nil, Nat.zero_add, Nat.le_refl, and_self, if_true, List.drop_zero, List.take_of_length_le]
      rw [← hr]
      exact h
theorem cutc_len (c : UInt8) (s : List UInt8) : (cutc c s).length ≤ s.length := by
  rw [cutc]
  split
  · rw [List.length_tail]; omega
  · exact Nat.le_refl _
theorem cutc_eq {c : UInt8} {s : List UInt8} (h : s.head? = some c) : s = c :: cutc c s := by
  rw [cutc, if_pos h]
  cases s with
  | nil => cases h
  | cons d r =>
    simp only [List.head?_cons, Option.some.injEq] at h
    rw [h]
    rfl
theorem cutc_no {c : UInt8} {s : List UInt8} (h : s.head? ≠ some c) : cutc c s = s := by rw [cutc, if_neg h]
theorem le_upd {M N : Mem} {id : Nat} {X : Blk} (h1 : N id = some X) (h2 : ∀ k bk, M k = some bk → k ≠ id → N k = some bk) : (M.set id X).le N := fun k bk hk => by
  rw [Mem.set_app] at hk
  split at hk
  · rename_i e
    rw [← e, h1]
    exact hk
  · rename_i e
    exact h2 _ _ hk (Ne.symm e)
/-- What a leaf that is being read stands as. -/
structure LSt (M N N0 : Mem) (id id2 : Nat) (xp : Lf) (ps : List Pr) (s : List UInt8) (left : Int) (x : Lf) : Prop where
  own : N id = some (rdB s left x)
  nod : N id2 = some (.cells 46 [[.bool false, .int .i64 0, .int .i64 0, .int .i64 0, xp, .int .i64 0]] 0)
  sb : SB 79 N xp (ps.map Pr.row) N0
  kept : ∀ k bk, M k = some bk → k ≠ id → N0 k = some bk
  own0 : N0 id = some (rdB s left x)
theorem LSt.set {M N N0 : Mem} {id id2 : Nat} {xp : Lf} {ps : List Pr} {s : List UInt8} {left : Int} {x : Lf} (h : LSt M N N0 id id2 xp ps s left x) (hne : id2 ≠ id) (s' : List UInt8) : LSt M (N.set id (rdB s' left x)) (N0.set id (rdB s' left x)) id id2 xp ps s' left x := by
  obtain ⟨h1, h2, h3, h4, h5⟩ := h
  refine ⟨Mem.set_eq _ _ _, by rw [Mem.set_ne _ _ _ _ (Ne.symm hne)]; exact h2, ?_, fun k bk hk hk' => by rw [Mem.set_ne _ _ _ _ (Ne.symm hk')]; exact h4 _ _ hk hk', Mem.set_eq _ _ _⟩
  generalize ps.map Pr.row = rows at h3
  cases h3 with
  | nil => exact .nil
  | @ms idp _ hM =>
    have hn : idp ≠ id := fun e => by rw [e, h1] at hM; cases hM
    have e : (N.set id (rdB s' left x)).del idp = (N.del idp).set id (rdB s' left x) := by
      funext k
      simp only [Mem.set_app, Mem.del_app]
      by_cases a : idp = k
      · rw [if_pos a, if_neg (by omega), if_pos a]
      · rw [if_neg a, if_neg a]
    rw [← e]
    exact .ms (by rw [Mem.set_ne _ _ _ _ (Ne.symm hn)]; exact hM)
theorem LSt.new {M N N0 : Mem} {id id2 : Nat} {xp : Lf} {ps : List Pr} {s : List UInt8} {left : Int} {x : Lf} (h : LSt M N N0 id id2 xp ps s left x) {i : Nat} (hi : ∀ j, i ≤ j → N j = none) (X : Blk) : LSt M (N.set i X) (N0.set i X) id id2 xp ps s left x := by
  obtain ⟨h1, h2, h3, h4, h5⟩ := h
  have k1 := lt_of_bnd hi h1
  have k2 := lt_of_bnd hi h2
  refine ⟨by rw [Mem.set_ne _ _ _ _ (by omega)]; exact h1, by rw [Mem.set_ne _ _ _ _ (by omega)]; exact h2, h3.set hi X, fun k bk hk hk' => ?_, by rw [Mem.set_ne _ _ _ _ (by omega)]; exact h5⟩
  have h6 := h4 _ _ hk hk'
  have := lt_of_bnd hi (h3.le _ _ h6)
  rw [Mem.set_ne _ _ _ _ (by omega)]
  exact h6
theorem SB.other {T : TypeId} {M M0 : Mem} {x : Lf} {l : List (List Lf)} (h : SB T M x l M0) {i T' k' : Nat} {rs' : List (List Lf)} (hi : M i = some (.cells T' rs' k')) (hT : T ≠ T') (X : Blk) : SB T (M.set i X) x l (M0.set i X) := by
  cases h with
  | nil => exact .nil
  | @ms id rows h =>
    have hne : id ≠ i := fun e => by
      rw [e, hi] at h
      injection h with h
      injection h with h
      exact hT h.symm
    have e : (M.set i X).del id = (M.del id).set i X := by
      funext k
      simp only [Mem.set_app, Mem.del_app]
      by_cases a : id = k
      · rw [if_pos a, if_neg (by omega), if_pos a]
      · rw [if_neg a, if_neg a]
    rw [← e]
    exact .ms (by rw [Mem.set_ne _ _ _ _ (Ne.symm hne)]; exact h)
theorem LSt.put {M N N0 : Mem} {id id2 : Nat} {xp : Lf} {ps : List Pr} {s : List UInt8} {left : Int} {x : Lf} (h : LSt M N N0 id id2 xp ps s left x) (hM2 : M id2 = none) (hne : id2 ≠ id) (Y : Blk) : SB 79 (N.set id2 Y) xp (ps.map Pr.row) (N0.set id2 Y) ∧ (N.set id2 Y) id = some (rdB s left x) ∧ (N0.set id2 Y) id = some (rdB s left x) ∧ ∀ k bk, M k = some bk → k ≠ id → (N0.set id2 Y) k = some bk := by
  refine ⟨h.sb.other h.nod (by decide) Y, by rw [Mem.set_ne _ _ _ _ hne]; exact h.own, by rw [Mem.set_ne _ _ _ _ hne]; exact h.own0, fun k bk hk hk' => ?_⟩
  rw [Mem.set_ne _ _ _ _ (fun e => by rw [← e, hM2] at hk; cases hk)]
  exact h.kept _ _ hk hk'
theorem leaf_spec (s : List UInt8) (hs : s.length ≤ 1000000) (left : Int) (x : Lf) (id : Nat) (M : Mem) (hM : M id = some (rdB s left x)) :
    XCalls Go.Proofs.Tryd.prog 41 [.l (.ptr id 0 0)] M fun r M' => ∃ s', s'.length ≤ s.length ∧ M' = M.set id (rdB s' left x) ∧
      ((∃ ps st, LeafAt s ps st s' ∧ r = .tup [.agg (leafN ps st).row, .l (.bool true)]) ∨ ((∀ ps st t, ¬ LeafAt s ps st t) ∧ ∃ n : Nd, r = .tup [.agg n.row, .l (.bool false)])) := by
  refine xcalls_intro (rs := [.cell 2 46, .tmp 3]) Go.Proofs.Tryd.func41 rfl (by kernel_rfl) rfl rfl (by kernel_rfl) (by simp) ?_
  simp -implicitDefEqProofs (maxSteps := 1000000) (disch := omega) only [↓xsP, ↓vc_seq, xsQ, xsT, xsR, xsD, ↓reduceIte, reduceCtorEq, eq_self, ne_eq, imp_self, forall_const, Nat.reduceEqDiff, Nat.reduceAdd, Nat.reduceSub, Nat.reduceMul, Nat.reduceLT, Nat.reduceLeDiff, Nat.reduceBEq, Nat.reduceDiv, Nat.reduceMod, Int.reduceToNat, Int.reduceNeg, Int.reduceAdd, Int.reduceSub, Int.reduceMul, Int.reduceEq, Int.reduceNe, Int.reduceLT, Int.reduceLE, Int.reduceGT, Int.reduceGE]
  refine newI_intro fun id2 hid2 => ?_
  have k2 := lt_of_bnd hid2 hM
  have hM2 : M id2 = none := hid2 _ (Nat.le_refl _)
  have hne2 : id2 ≠ id := by omega
  simp -implicitDefEqProofs (maxSteps := 1000000) (disch := omega) only [↓xsP, ↓vc_seq, xsQ, xsT, xsR, xsD, ↓reduceIte, reduceCtorEq, eq_self, ne_eq, imp_self, forall_const, Nat.reduceEqDiff, Nat.reduceAdd, Nat.reduceSub, Nat.reduceMul, Nat.reduceLT, Nat.reduceLeDiff, Nat.reduceBEq, Nat.reduceDiv, Nat.reduceMod, Int.reduceToNat, Int.reduceNeg, Int.reduceAdd, Int.reduceSub, Int.reduceMul, Int.reduceEq, Int.reduceNe, Int.reduceLT, Int.reduceLE, Int.reduceGT, Int.reduceGE]
  refine loopI_of (xloop (by kernel_rfl) (fun k fr N => ∃ (xp : Lf) (ps : List Pr) (s' : List UInt8) (N0 : Mem), s'.length ≤ s.length ∧ ps.length + s'.length ≤ s.length ∧ k = s'.length ∧ LInv s ps s' ∧ LSt M N N0 id id2 xp ps s' left x ∧ fr 0 = .l (.ptr id 0 0) ∧ fr 2 = .l (.ptr id2 0 0)) s.length ?_ ?_)
  · refine ⟨.nils, [], s, _, Nat.le_refl _, by simp, rfl, LInv.start s, ⟨?_, Mem.set_eq _ _ _, .nil, fun k bk hk _ => le_new (Mem.le_refl _) hid2 _ _ hk, ?_⟩, by simp -implicitDefEqProofs (maxSteps := 1000000) (disch := omega) only [↓xsP, ↓vc_seq, xsQ, xsT, xsR, xsD, ↓reduceIte, reduceCtorEq, eq_self, ne_eq, imp_self, forall_const, Nat.reduceEqDiff, Nat.reduceAdd, Nat.reduceSub, Nat.reduceMul, Nat.reduceLT, Nat.reduceLeDiff, Nat.reduceBEq, Nat.reduceDiv, Nat.reduceMod, Int.reduceToNat, Int.reduceNeg, Int.reduceAdd, Int.reduceSub, Int.reduceMul, Int.reduceEq, Int.reduceNe, Int.reduceLT, Int.reduceLE, Int.reduceGT, Int.reduceGE], by simp -implicitDefEqProofs (maxSteps := 1000000) (disch := omega) only [↓xsP, ↓vc_seq, xsQ, xsT, xsR, xsD, ↓reduceIte, reduceCtorEq, eq_self, ne_eq, imp_self, forall_const, Nat.reduceEqDiff, Nat.reduceAdd, Nat.reduceSub, Nat.reduceMul, Nat.reduceLT, Nat.reduceLeDiff, Nat.reduceBEq, Nat.reduceDiv, Nat.reduceMod, Int.reduceToNat, Int.reduceNeg, Int.reduceAdd, Int.reduceSub, Int.reduceMul, Int.reduceEq, Int.reduceNe, Int.reduceLT, Int.reduceLE, Int.reduceGT, Int.reduceGE]⟩
    · rw [Mem.set_ne _ _ _ _ (by omega)]; exact hM
    · rw [Mem.set_ne _ _ _ _ (by omega)]; exact hM
  rintro k fr N ⟨xp, ps, s1, N0, hs1, hps1, rfl, hI, hL, f0, f2⟩
  simp -implicitDefEqProofs (maxSteps := 1000000) (disch := omega) only [↓xsP, ↓vc_seq, xsQ, xsT, xsR, xsD, ↓reduceIte, reduceCtorEq, eq_self, ne_eq, imp_self, forall_const, Nat.reduceEqDiff, Nat.reduceAdd, Nat.reduceSub, Nat.reduceMul, Nat.reduceLT, Nat.reduceLeDiff, Nat.reduceBEq, Nat.reduceDiv, Nat.reduceMod, Int.reduceToNat, Int.reduceNeg, Int.reduceAdd, Int.reduceSub, Int.reduceMul, Int.reduceEq, Int.reduceNe, Int.reduceLT, Int.reduceLE, Int.reduceGT, Int.reduceGE, f0, f2]
  refine callI_of ((sign_spec s1 left x 124 id _ hL.own).mono ?_)
  rintro _ _ ⟨rfl, rfl⟩
  have hL1 := hL.set hne2 (cutc 124 s1)
  have hcl := cutc_len 124 s1
  generalize N.set id (rdB (cutc 124 s1) left x) = N1 at hL1 ⊢
  generalize N0.set id (rdB (cutc 124 s1) left x) = N10 at hL1
  by_cases h124 : s1.head? = some 124
  · rw [decide_eq_true h124]
    have hs12 := cutc_eq h124
    obtain ⟨s2, hs2⟩ : ∃ s2, cutc 124 s1 = s2 := ⟨_, rfl⟩
    rw [hs2] at hL1 hs12 hcl
    rw [hs12] at hI
    simp -implicitDefEqProofs (maxSteps := 1000000) (disch := omega) only [↓xsP, ↓vc_seq, xsQ, xsT, xsR, xsD, ↓reduceIte, reduceCtorEq, eq_self, ne_eq, imp_self, forall_const, Nat.reduceEqDiff, Nat.reduceAdd, Nat.reduceSub, Nat.reduceMul, Nat.reduceLT, Nat.reduceLeDiff, Nat.reduceBEq, Nat.reduceDiv, Nat.reduceMod, Int.reduceToNat, Int.reduceNeg, Int.reduceAdd, Int.reduceSub, Int.reduceMul, Int.reduceEq, Int.reduceNe, Int.reduceLT, Int.reduceLE, Int.reduceGT, Int.reduceGE, f0, f2]
    refine callI_of ((number_spec s2 (by omega) left x id _ hL1.own).mono ?_)
    have hd1 : (s2.drop (tok s2).length).length ≤ s2.length := by rw [List.length_drop]; omega
    obtain ⟨s3, hs3⟩ : ∃ s3, s2.drop (tok s2).length = s3 := ⟨_, rfl⟩
    rw [hs3] at hd1 ⊢
    rintro _ _ ⟨rfl, h⟩
    have hL2 := hL1.set hne2 s3
    generalize N1.set id (rdB s3 left x) = N2 at hL2 ⊢
    generalize N10.set id (rdB s3 left x) = N20 at hL2
    have hN2 := hL2.nod
    rcases h with ⟨v, hv, rfl⟩ | ⟨hno, n, rfl⟩
    · simp -implicitDefEqProofs (maxSteps := 1000000) (disch := omega) only [↓xsP, ↓vc_seq, xsQ, xsT, xsR, xsD, ↓reduceIte, reduceCtorEq, eq_self, ne_eq, imp_self, forall_const, Nat.reduceEqDiff, Nat.reduceAdd, Nat.reduceSub, Nat.reduceMul, Nat.reduceLT, Nat.reduceLeDiff, Nat.reduceBEq, Nat.reduceDiv, Nat.reduceMod, Int.reduceToNat, Int.reduceNeg, Int.reduceAdd, Int.reduceSub, Int.reduceMul, Int.reduceEq, Int.reduceNe, Int.reduceLT, Int.reduceLE, Int.reduceGT, Int.reduceGE, f0, f2, hN2]
      obtain ⟨Y, hY⟩ : ∃ Y, Y = Blk.cells 46 [[.bool false, .int .i64 0, .int .i64 0, .int .i64 0, xp, .int .i64 v]] 0 := ⟨_, rfl⟩
      obtain ⟨g1, g2, g3, g4⟩ := hL2.put hM2 hne2 Y
      have g5 := Mem.set_eq N2 id2 Y
      rw [← hY]
      generalize N2.set id2 Y = N3 at g1 g2 g5 ⊢
      generalize N20.set id2 Y = N30 at g1 g3 g4
      rw [hY] at g5
      refine xwrite (fun n0 => [ (2, id), (3, id2)]) [2, 3] [] [[2], [], [], [], []] (by kernel_rfl) (by kernel_rfl) (by kernel_rfl) (by kernel_rfl) (fun n0 hn0 => ⟨rfl, ?_, ?_⟩)
      · exact TOk_cons (.inl (lt_of_bnd hn0 g2)) (TOk_cons (.inl (lt_of_bnd hn0 g5)) (TOk_nil _ _))
      have z5 := lt_of_bnd hn0 g5
      have z2 := lt_of_bnd hn0 g2
      simp -implicitDefEqProofs (maxSteps := 1000000) (disch := omega) only [↓xsP, ↓vc_seq, xsQ, xsT, xsR, xsD, ↓reduceIte, reduceCtorEq, eq_self, ne_eq, imp_self, forall_const, Nat.reduceEqDiff, Nat.reduceAdd, Nat.reduceSub, Nat.reduceMul, Nat.reduceLT, Nat.reduceLeDiff, Nat.reduceBEq, Nat.reduceDiv, Nat.reduceMod, Int.reduceToNat, Int.reduceNeg, Int.reduceAdd, Int.reduceSub, Int.reduceMul, Int.reduceEq, Int.reduceNe, Int.reduceLT, Int.reduceLE, Int.reduceGT, Int.reduceGE, f0, f2, g5]
      refine wcallI_eff (v := .l (.bool (decide (s3.head? = some 93)))) (e := [(id, some (rdB (cutc 93 s3) left x))]) (fun M' hle => (sign_spec s3 left x 93 id M' (hle _ _ g2)).mono ?_) ?_
      · rintro _ _ ⟨rfl, rfl⟩
        exact ⟨rfl, Mem.le_refl _⟩
      simp -implicitDefEqProofs (maxSteps := 1000000) (disch := omega) only [↓xsP, ↓vc_seq, xsQ, xsT, xsR, xsD, ↓reduceIte, reduceCtorEq, eq_self, ne_eq, imp_self, forall_const, Nat.reduceEqDiff, Nat.reduceAdd, Nat.reduceSub, Nat.reduceMul, Nat.reduceLT, Nat.reduceLeDiff, Nat.reduceBEq, Nat.reduceDiv, Nat.reduceMod, Int.reduceToNat, Int.reduceNeg, Int.reduceAdd, Int.reduceSub, Int.reduceMul, Int.reduceEq, Int.reduceNe, Int.reduceLT, Int.reduceLE, Int.reduceGT, Int.reduceGE, f0, f2, g5]
      rw [Mem.set_selfT (show (N3.set id (rdB (cutc 93 s3) left x)) id2 = some _ from by rw [Mem.set_ne _ _ _ _ (Ne.symm hne2)]; exact g5)]
      have hcl3 := cutc_len 93 s3
      have hle3 : (M.set id (rdB (cutc 93 s3) left x)).le (N30.set id (rdB (cutc 93 s3) left x)) := le_upd (Mem.set_eq _ _ _) fun k bk hk hk' => by
        rw [Mem.set_ne _ _ _ _ (Ne.symm hk')]
        exact g4 _ _ hk hk'
      refine leaf_fin (g1.other g2 (by decide) _) hle3 ⟨cutc 93 s3, by omega, rfl, ?_⟩
      by_cases h93 : s3.head? = some 93
      · rw [decide_eq_true h93]
        refine .inl ⟨ps, v, ⟨s2, (hI.done).2 ⟨rfl, rfl⟩, ?_⟩, rfl⟩
        rw [← cutc_eq h93]
        exact hv
      · rw [decide_eq_false h93]
        refine .inr ⟨fun qs st t ⟨u, h1, h2⟩ => ?_, leafN ps v, rfl⟩
        obtain ⟨-, rfl⟩ := hI.done.1 h1
        have := (numAt_uniq h2 hv).2
        rw [← this] at h93
        exact h93 rfl
    · simp -implicitDefEqProofs (maxSteps := 1000000) (disch := omega) only [↓xsP, ↓vc_seq, xsQ, xsT, xsR, xsD, ↓reduceIte, reduceCtorEq, eq_self, ne_eq, imp_self, forall_const, Nat.reduceEqDiff, Nat.reduceAdd, Nat.reduceSub, Nat.reduceMul, Nat.reduceLT, Nat.reduceLeDiff, Nat.reduceBEq, Nat.reduceDiv, Nat.reduceMod, Int.reduceToNat, Int.reduceNeg, Int.reduceAdd, Int.reduceSub, Int.reduceMul, Int.reduceEq, Int.reduceNe, Int.reduceLT, Int.reduceLE, Int.reduceGT, Int.reduceGE, f0, f2, hN2]
      obtain ⟨g1, g2, g3, g4⟩ := hL2.put hM2 hne2 (.cells 46 [[.bool false, .int .i64 0, .int .i64 0, .int .i64 0, xp, .int .i64 n]] 0)
      refine leaf_fin g1 (le_upd g3 g4) ⟨s3, by omega, rfl, .inr ⟨fun qs st t ⟨u, h1, h2⟩ => ?_, leafN ps n, rfl⟩⟩
      obtain ⟨-, rfl⟩ := hI.done.1 h1
      exact hno _ _ h2
  · rw [decide_eq_false h124]
    rw [cutc_no h124] at hL1
    have hN1 := hL1.nod
    have hln := hL1.sb.len ti_44 rfl
    rw [List.length_map] at hln
    simp only [lenA, ti_44] at hln
    simp -implicitDefEqProofs (maxSteps := 1000000) (disch := omega) only [↓xsP, ↓vc_seq, xsQ, xsT, xsR, xsD, ↓reduceIte, reduceCtorEq, eq_self, ne_eq, imp_self, forall_const, Nat.reduceEqDiff, Nat.reduceAdd, Nat.reduceSub, Nat.reduceMul, Nat.reduceLT, Nat.reduceLeDiff, Nat.reduceBEq, Nat.reduceDiv, Nat.reduceMod, Int.reduceToNat, Int.reduceNeg, Int.reduceAdd, Int.reduceSub, Int.reduceMul, Int.reduceEq, Int.reduceNe, Int.reduceLT, Int.reduceLE, Int.reduceGT, Int.reduceGE, f0, f2, hN1, hln]
    by_cases hp0 : ps = []
    · have w0 : decide ((ps.length : Int) > 0) = false := decide_eq_false (by rw [hp0]; decide)
      simp -implicitDefEqProofs (maxSteps := 1000000) (disch := omega) only [↓xsP, ↓vc_seq, xsQ, xsT, xsR, xsD, ↓reduceIte, reduceCtorEq, eq_self, ne_eq, imp_self, forall_const, Nat.reduceEqDiff, Nat.reduceAdd, Nat.reduceSub, Nat.reduceMul, Nat.reduceLT, Nat.reduceLeDiff, Nat.reduceBEq, Nat.reduceDiv, Nat.reduceMod, Int.reduceToNat, Int.reduceNeg, Int.reduceAdd, Int.reduceSub, Int.reduceMul, Int.reduceEq, Int.reduceNe, Int.reduceLT, Int.reduceLE, Int.reduceGT, Int.reduceGE, f0, f2, hN1, hln, w0]
      obtain ⟨sw, hw⟩ : ∃ sw, sw = s1 := ⟨_, rfl⟩
      have L := hL1
      rw [← hw] at L
      have hswl0 : sw.length ≤ s1.length := by rw [hw]; exact Nat.le_refl _
      obtain ⟨Nw, eNw⟩ : ∃ Nw, N1 = Nw := ⟨_, rfl⟩
      obtain ⟨Nw0, eNw0⟩ : ∃ Nw0, N10 = Nw0 := ⟨_, rfl⟩
      rw [eNw] at L ⊢
      rw [eNw0] at L
      clear hln hN1 hL hL1
      have hpl := L.own
      have hswl : sw.length ≤ s1.length := by omega
      refine callI_of ((pair_spec sw (by omega) left x id _ hpl).mono ?_)
      rintro _ _ ⟨s3, hs3, rfl, h⟩
      have L3 := L.set hne2 s3
      generalize Nw.set id (rdB s3 left x) = N3 at L3 ⊢
      generalize Nw0.set id (rdB s3 left x) = N30 at L3
      rcases h with ⟨p, hp, rfl⟩ | ⟨hno, p, rfl⟩
      · have hplen := pairAt_len hp
        simp -implicitDefEqProofs (maxSteps := 1000000) (disch := omega) only [↓xsP, ↓vc_seq, xsQ, xsT, xsR, xsD, ↓reduceIte, reduceCtorEq, eq_self, ne_eq, imp_self, forall_const, Nat.reduceEqDiff, Nat.reduceAdd, Nat.reduceSub, Nat.reduceMul, Nat.reduceLT, Nat.reduceLeDiff, Nat.reduceBEq, Nat.reduceDiv, Nat.reduceMod, Int.reduceToNat, Int.reduceNeg, Int.reduceAdd, Int.reduceSub, Int.reduceMul, Int.reduceEq, Int.reduceNe, Int.reduceLT, Int.reduceLE, Int.reduceGT, Int.reduceGE, f0, f2]
        refine newI_intro fun id4 hid4 => ?_
        have L4 := L3.new hid4 (.cells 79 [[.int .i64 p.key, .int .i64 p.val]] 0)
        have h44 := Mem.set_eq N3 id4 (.cells 79 [[.int .i64 p.key, .int .i64 p.val]] 0)
        have k42 := lt_of_bnd hid4 L3.nod
        simp -implicitDefEqProofs (maxSteps := 1000000) (disch := omega) only [↓xsP, ↓vc_seq, xsQ, xsT, xsR, xsD, ↓reduceIte, reduceCtorEq, eq_self, ne_eq, imp_self, forall_const, Nat.reduceEqDiff, Nat.reduceAdd, Nat.reduceSub, Nat.reduceMul, Nat.reduceLT, Nat.reduceLeDiff, Nat.reduceBEq, Nat.reduceDiv, Nat.reduceMod, Int.reduceToNat, Int.reduceNeg, Int.reduceAdd, Int.reduceSub, Int.reduceMul, Int.reduceEq, Int.reduceNe, Int.reduceLT, Int.reduceLE, Int.reduceGT, Int.reduceGE, f0, f2, L3.nod]
        refine newI_intro fun idp hidp => ?_
        have L5 := L4.new hidp (.cells 79 [[.int .i64 p.key, .int .i64 p.val]] 0)
        have kp2 := lt_of_bnd hidp L4.nod
        have kp4 := lt_of_bnd hidp h44
        simp -implicitDefEqProofs (maxSteps := 1000000) (disch := omega) only [↓xsP, ↓vc_seq, xsQ, xsT, xsR, xsD, ↓reduceIte, reduceCtorEq, eq_self, ne_eq, imp_self, forall_const, Nat.reduceEqDiff, Nat.reduceAdd, Nat.reduceSub, Nat.reduceMul, Nat.reduceLT, Nat.reduceLeDiff, Nat.reduceBEq, Nat.reduceDiv, Nat.reduceMod, Int.reduceToNat, Int.reduceNeg, Int.reduceAdd, Int.reduceSub, Int.reduceMul, Int.reduceEq, Int.reduceNe, Int.reduceLT, Int.reduceLE, Int.reduceGT, Int.reduceGE, f0, f2, L3.nod]
        obtain ⟨N5, eN5, hsrc⟩ : ∃ N5, N5 = (N3.set id4 (.cells 79 [[.int .i64 p.key, .int .i64 p.val]] 0)).set idp (.cells 79 [[.int .i64 p.key, .int .i64 p.val]] 0) ∧ N5 idp = some (.cells 79 [[.int .i64 p.key, .int .i64 p.val]] 0) := ⟨_, rfl, Mem.set_eq _ _ _⟩
        rw [← eN5] at L5 ⊢
        generalize (N30.set id4 (.cells 79 [[.int .i64 p.key, .int .i64 p.val]] 0)).set idp (.cells 79 [[.int .i64 p.key, .int .i64 p.val]] 0) = N50 at L5
        refine app_sb ti_44 rfl ti_79 (by kernel_rfl) (by decide) (by decide) L5.sb (bs := [p.row]) (by unfold srcRows; rw [if_pos rfl]; simp only [hsrc]; rfl) (by simp) (by rw [List.length_map]; simp only [List.length_cons, List.length_nil]; omega) (fun id7 hid7 => ?_)
        have k72 := lt_of_bnd hid7 L5.nod
        have k7i := lt_of_bnd hid7 L5.own
        have h502 : N50 id2 = some (.cells 46 [[.bool false, .int .i64 0, .int .i64 0, .int .i64 0, xp, .int .i64 0]] 0) := by
          have h1 := L5.sb
          have h2 := L5.nod
          generalize ps.map Pr.row = rows at h1
          cases h1 with
          | nil => exact h2
          | @ms idq _ hq =>
            rw [Mem.del_ne _ _ _ (fun e => by rw [e, h2] at hq; cases hq)]
            exact h2
        simp -implicitDefEqProofs (maxSteps := 1000000) (disch := omega) only [↓xsP, ↓vc_seq, xsQ, xsT, xsR, xsD, ↓reduceIte, reduceCtorEq, eq_self, ne_eq, imp_self, forall_const, Nat.reduceEqDiff, Nat.reduceAdd, Nat.reduceSub, Nat.reduceMul, Nat.reduceLT, Nat.reduceLeDiff, Nat.reduceBEq, Nat.reduceDiv, Nat.reduceMod, Int.reduceToNat, Int.reduceNeg, Int.reduceAdd, Int.reduceSub, Int.reduceMul, Int.reduceEq, Int.reduceNe, Int.reduceLT, Int.reduceLE, Int.reduceGT, Int.reduceGE, f0, f2, h502]
        have hmap : ps.map Pr.row ++ [p.row] = (ps ++ [p]).map Pr.row := by simp
        have hml : (ps.map Pr.row).length + [p.row].length = (ps ++ [p]).length := by simp
        have hM7 : M id7 = none := by
          cases hm : M id7 with
          | none => rfl
          | some bk =>
            by_cases e : id7 = id
            · omega
            · have h1 := L5.kept _ _ hm e
              have h2 := L5.sb.le _ _ h1
              rw [hid7 id7 (Nat.le_refl _)] at h2
              cases h2
        obtain ⟨N7, eN7, n7a, n7b, n7c, n7d⟩ : ∃ N7, N7 = (N50.set id7 (.cells 79 (ps.map Pr.row ++ [[.int .i64 p.key, .int .i64 p.val]]) 0)).set id2 (.cells 46 [[.bool false, .int .i64 0, .int .i64 0, .int .i64 0, .ms id7 0 (ps.length + 1), .int .i64 0]] 0) ∧
            N7 id = some (rdB s3 left x) ∧ N7 id2 = some (.cells 46 [[.bool false, .int .i64 0, .int .i64 0, .int .i64 0, .ms id7 0 (ps.length + 1), .int .i64 0]] 0) ∧ N7 id7 = some (.cells 79 ((ps ++ [p]).map Pr.row) 0) ∧ ∀ k bk, M k = some bk → k ≠ id → N7 k = some bk := by
          refine ⟨_, rfl, ?_, Mem.set_eq _ _ _, ?_, fun k bk hk hk' => ?_⟩
          · rw [Mem.set_ne _ _ _ _ hne2, Mem.set_ne _ _ _ _ (by omega)]
            exact L5.own0
          · rw [Mem.set_ne _ _ _ _ (by omega), Mem.set_eq, ← hmap]
            rfl
          · rw [Mem.set_ne _ _ _ _ (fun e => by rw [← e, hM2] at hk; cases hk), Mem.set_ne _ _ _ _ (fun e => by rw [← e, hM7] at hk; cases hk)]
            exact L5.kept _ _ hk hk'
        rw [← eN7]
        refine ⟨s3.length, N7, by omega, Mem.le_refl _, .ms id7 0 (ps.length + 1), ps ++ [p], s3, N7.del id7, by omega, by simp; omega, rfl, hI.step h124 (by rw [if_pos hp0]; exact hw) hp, ⟨n7a, n7b, ?_, fun k bk hk hk' => ?_, ?_⟩⟩
        · have := SB.ms n7c
          rw [List.length_map, List.length_append] at this
          exact this
        · rw [Mem.del_ne _ _ _ (fun e => by rw [← e, hM7] at hk; cases hk)]
          exact n7d _ _ hk hk'
        · rw [Mem.del_ne _ _ _ (by omega)]
          exact n7a
      · simp -implicitDefEqProofs (maxSteps := 1000000) (disch := omega) only [↓xsP, ↓vc_seq, xsQ, xsT, xsR, xsD, ↓reduceIte, reduceCtorEq, eq_self, ne_eq, imp_self, forall_const, Nat.reduceEqDiff, Nat.reduceAdd, Nat.reduceSub, Nat.reduceMul, Nat.reduceLT, Nat.reduceLeDiff, Nat.reduceBEq, Nat.reduceDiv, Nat.reduceMod, Int.reduceToNat, Int.reduceNeg, Int.reduceAdd, Int.reduceSub, Int.reduceMul, Int.reduceEq, Int.reduceNe, Int.reduceLT, Int.reduceLE, Int.reduceGT, Int.reduceGE, f0, f2]
        refine newI_intro fun id4 hid4 => ?_
        have L4 := L3.new hid4 (.cells 79 [[.int .i64 p.key, .int .i64 p.val]] 0)
        have k42 := lt_of_bnd hid4 L3.nod
        simp -implicitDefEqProofs (maxSteps := 1000000) (disch := omega) only [↓xsP, ↓vc_seq, xsQ, xsT, xsR, xsD, ↓reduceIte, reduceCtorEq, eq_self, ne_eq, imp_self, forall_const, Nat.reduceEqDiff, Nat.reduceAdd, Nat.reduceSub, Nat.reduceMul, Nat.reduceLT, Nat.reduceLeDiff, Nat.reduceBEq, Nat.reduceDiv, Nat.reduceMod, Int.reduceToNat, Int.reduceNeg, Int.reduceAdd, Int.reduceSub, Int.reduceMul, Int.reduceEq, Int.reduceNe, Int.reduceLT, Int.reduceLE, Int.reduceGT, Int.reduceGE, f0, f2, L3.nod]
        obtain ⟨g1, g2, g3, g4⟩ := L4.put hM2 hne2 (.cells 46 [[.bool false, .int .i64 0, .int .i64 0, .int .i64 0, xp, .int .i64 0]] 0)
        refine leaf_fin g1 (le_upd g3 g4) ⟨s3, by omega, rfl, .inr ⟨hI.none h124 fun w q u hww => ?_, leafN ps 0, rfl⟩⟩
        rw [if_pos hp0] at hww
        rw [hww, ← hw]
        exact hno q u
    · have w0 : decide ((ps.length : Int) > 0) = true := decide_eq_true (by have := List.length_pos_iff.2 hp0; omega)
      simp -implicitDefEqProofs (maxSteps := 1000000) (disch := omega) only [↓xsP, ↓vc_seq, xsQ, xsT, xsR, xsD, ↓reduceIte, reduceCtorEq, eq_self, ne_eq, imp_self, forall_const, Nat.reduceEqDiff, Nat.reduceAdd, Nat.reduceSub, Nat.reduceMul, Nat.reduceLT, Nat.reduceLeDiff, Nat.reduceBEq, Nat.reduceDiv, Nat.reduceMod, Int.reduceToNat, Int.reduceNeg, Int.reduceAdd, Int.reduceSub, Int.reduceMul, Int.reduceEq, Int.reduceNe, Int.reduceLT, Int.reduceLE, Int.reduceGT, Int.reduceGE, f0, f2, hN1, hln, w0]
      refine callI_of ((sign_spec s1 left x 44 id _ hL1.own).mono ?_)
      rintro _ _ ⟨rfl, rfl⟩
      have hcl4 := cutc_len 44 s1
      have L := hL1.set hne2 (cutc 44 s1)
      generalize N1.set id (rdB (cutc 44 s1) left x) = Nw at L ⊢
      generalize N10.set id (rdB (cutc 44 s1) left x) = Nw0 at L
      by_cases h44 : s1.head? = some 44
      · rw [decide_eq_true h44]
        simp -implicitDefEqProofs (maxSteps := 1000000) (disch := omega) only [↓xsP, ↓vc_seq, xsQ, xsT, xsR, xsD, ↓reduceIte, reduceCtorEq, eq_self, ne_eq, imp_self, forall_const, Nat.reduceEqDiff, Nat.reduceAdd, Nat.reduceSub, Nat.reduceMul, Nat.reduceLT, Nat.reduceLeDiff, Nat.reduceBEq, Nat.reduceDiv, Nat.reduceMod, Int.reduceToNat, Int.reduceNeg, Int.reduceAdd, Int.reduceSub, Int.reduceMul, Int.reduceEq, Int.reduceNe, Int.reduceLT, Int.reduceLE, Int.reduceGT, Int.reduceGE, f0, f2, w0]
        have hw := cutc_eq h44
        obtain ⟨sw, hsw⟩ : ∃ sw, cutc 44 s1 = sw := ⟨_, rfl⟩
        rw [hsw] at L hw hcl4
        clear hln hN1 hL hL1
        have hpl := L.own
        have hswl : sw.length ≤ s1.length := by omega
        refine callI_of ((pair_spec sw (by omega) left x id _ hpl).mono ?_)
        rintro _ _ ⟨s3, hs3, rfl, h⟩
        have L3 := L.set hne2 s3
        generalize Nw.set id (rdB s3 left x) = N3 at L3 ⊢
        generalize Nw0.set id (rdB s3 left x) = N30 at L3
        rcases h with ⟨p, hp, rfl⟩ | ⟨hno, p, rfl⟩
        · have hplen := pairAt_len hp
          simp -implicitDefEqProofs (maxSteps := 1000000) (disch := omega) only [↓xsP, ↓vc_seq, xsQ, xsT, xsR, xsD, ↓reduceIte, reduceCtorEq, eq_self, ne_eq, imp_self, forall_const, Nat.reduceEqDiff, Nat.reduceAdd, Nat.reduceSub, Nat.reduceMul, Nat.reduceLT, Nat.reduceLeDiff, Nat.reduceBEq, Nat.reduceDiv, Nat.reduceMod, Int.reduceToNat, Int.reduceNeg, Int.reduceAdd, Int.reduceSub, Int.reduceMul, Int.reduceEq, Int.reduceNe, Int.reduceLT, Int.reduceLE, Int.reduceGT, Int.reduceGE, f0, f2]
          refine newI_intro fun id4 hid4 => ?_
          have L4 := L3.new hid4 (.cells 79 [[.int .i64 p.key, .int .i64 p.val]] 0)
          have h44 := Mem.set_eq N3 id4 (.cells 79 [[.int .i64 p.key, .int .i64 p.val]] 0)
          have k42 := lt_of_bnd hid4 L3.nod
          simp -implicitDefEqProofs (maxSteps := 1000000) (disch := omega) only [↓xsP, ↓vc_seq, xsQ, xsT, xsR, xsD, ↓reduceIte, reduceCtorEq, eq_self, ne_eq, imp_self, forall_const, Nat.reduceEqDiff, Nat.reduceAdd, Nat.reduceSub, Nat.reduceMul, Nat.reduceLT, Nat.reduceLeDiff, Nat.reduceBEq, Nat.reduceDiv, Nat.reduceMod, Int.reduceToNat, Int.reduceNeg, Int.reduceAdd, Int.reduceSub, Int.reduceMul, Int.reduceEq, Int.reduceNe, Int.reduceLT, Int.reduceLE, Int.reduceGT, Int.reduceGE, f0, f2, L3.nod]
          refine newI_intro fun idp hidp => ?_
          have L5 := L4.new hidp (.cells 79 [[.int .i64 p.key, .int .i64 p.val]] 0)
          have kp2 := lt_of_bnd hidp L4.nod
          have kp4 := lt_of_bnd hidp h44
          simp -implicitDefEqProofs (maxSteps := 1000000) (disch := omega) only [↓xsP, ↓vc_seq, xsQ, xsT, xsR, xsD, ↓reduceIte, reduceCtorEq, eq_self, ne_eq, imp_self, forall_const, Nat.reduceEqDiff, Nat.reduceAdd, Nat.reduceSub, Nat.reduceMul, Nat.reduceLT, Nat.reduceLeDiff, Nat.reduceBEq, Nat.reduceDiv, Nat.reduceMod, Int.reduceToNat, Int.reduceNeg, Int.reduceAdd, Int.reduceSub, Int.reduceMul, Int.reduceEq, Int.reduceNe, Int.reduceLT, Int.reduceLE, Int.reduceGT, Int.reduceGE, f0, f2, L3.nod]
          obtain ⟨N5, eN5, hsrc⟩ : ∃ N5, N5 = (N3.set id4 (.cells 79 [[.int .i64 p.key, .int .i64 p.val]] 0)).set idp (.cells 79 [[.int .i64 p.key, .int .i64 p.val]] 0) ∧ N5 idp = some (.cells 79 [[.int .i64 p.key, .int .i64 p.val]] 0) := ⟨_, rfl, Mem.set_eq _ _ _⟩
          rw [← eN5] at L5 ⊢
          generalize (N30.set id4 (.cells 79 [[.int .i64 p.key, .int .i64 p.val]] 0)).set idp (.cells 79 [[.int .i64 p.key, .int .i64 p.val]] 0) = N50 at L5
          refine app_sb ti_44 rfl ti_79 (by kernel_rfl) (by decide) (by decide) L5.sb (bs := [p.row]) (by unfold srcRows; rw [if_pos rfl]; simp only [hsrc]; rfl) (by simp) (by rw [List.length_map]; simp only [List.length_cons, List.length_nil]; omega) (fun id7 hid7 => ?_)
          have k72 := lt_of_bnd hid7 L5.nod
          have k7i := lt_of_bnd hid7 L5.own
          have h502 : N50 id2 = some (.cells 46 [[.bool false, .int .i64 0, .int .i64 0, .int .i64 0, xp, .int .i64 0]] 0) := by
            have h1 := L5.sb
            have h2 := L5.nod
            generalize ps.map Pr.row = rows at h1
            cases h1 with
            | nil => exact h2
            | @ms idq _ hq =>
              rw [Mem.del_ne _ _ _ (fun e => by rw [e, h2] at hq; cases hq)]
              exact h2
          simp -implicitDefEqProofs (maxSteps := 1000000) (disch := omega) only [↓xsP, ↓vc_seq, xsQ, xsT, xsR, xsD, ↓reduceIte, reduceCtorEq, eq_self, ne_eq, imp_self, forall_const, Nat.reduceEqDiff, Nat.reduceAdd, Nat.reduceSub, Nat.reduceMul, Nat.reduceLT, Nat.reduceLeDiff, Nat.reduceBEq, Nat.reduceDiv, Nat.reduceMod, Int.reduceToNat, Int.reduceNeg, Int.reduceAdd, Int.reduceSub, Int.reduceMul, Int.reduceEq, Int.reduceNe, Int.reduceLT, Int.reduceLE, Int.reduceGT, Int.reduceGE, f0, f2, h502]
          have hmap : ps.map Pr.row ++ [p.row] = (ps ++ [p]).map Pr.row := by simp
          have hml : (ps.map Pr.row).length + [p.row].length = (ps ++ [p]).length := by simp
          have hM7 : M id7 = none := by
            cases hm : M id7 with
            | none => rfl
            | some bk =>
              by_cases e : id7 = id
              · omega
              · have h1 := L5.kept _ _ hm e
                have h2 := L5.sb.le _ _ h1
                rw [hid7 id7 (Nat.le_refl _)] at h2
                cases h2
          obtain ⟨N7, eN7, n7a, n7b, n7c, n7d⟩ : ∃ N7, N7 = (N50.set id7 (.cells 79 (ps.map Pr.row ++ [[.int .i64 p.key, .int .i64 p.val]]) 0)).set id2 (.cells 46 [[.bool false, .int .i64 0, .int .i64 0, .int .i64 0, .ms id7 0 (ps.length + 1), .int .i64 0]] 0) ∧
              N7 id = some (rdB s3 left x) ∧ N7 id2 = some (.cells 46 [[.bool false, .int .i64 0, .int .i64 0, .int .i64 0, .ms id7 0 (ps.length + 1), .int .i64 0]] 0) ∧ N7 id7 = some (.cells 79 ((ps ++ [p]).map Pr.row) 0) ∧ ∀ k bk, M k = some bk → k ≠ id → N7 k = some bk := by
            refine ⟨_, rfl, ?_, Mem.set_eq _ _ _, ?_, fun k bk hk hk' => ?_⟩
            · rw [Mem.set_ne _ _ _ _ hne2, Mem.set_ne _ _ _ _ (by omega)]
              exact L5.own0
            · rw [Mem.set_ne _ _ _ _ (by omega), Mem.set_eq, ← hmap]
              rfl
            · rw [Mem.set_ne _ _ _ _ (fun e => by rw [← e, hM2] at hk; cases hk), Mem.set_ne _ _ _ _ (fun e => by rw [← e, hM7] at hk; cases hk)]
              exact L5.kept _ _ hk hk'
          rw [← eN7]
          refine ⟨s3.length, N7, by omega, Mem.le_refl _, .ms id7 0 (ps.length + 1), ps ++ [p], s3, N7.del id7, by omega, by simp; omega, rfl, hI.step h124 (by rw [if_neg hp0]; exact hw) hp, ⟨n7a, n7b, ?_, fun k bk hk hk' => ?_, ?_⟩⟩
          · have := SB.ms n7c
            rw [List.length_map, List.length_append] at this
            exact this
          · rw [Mem.del_ne _ _ _ (fun e => by rw [← e, hM7] at hk; cases hk)]
            exact n7d _ _ hk hk'
          · rw [Mem.del_ne _ _ _ (by omega)]
            exact n7a
        · simp -implicitDefEqProofs (maxSteps := 1000000) (disch := omega) only [↓xsP, ↓vc_seq, xsQ, xsT, xsR, xsD, ↓reduceIte, reduceCtorEq, eq_self, ne_eq, imp_self, forall_const, Nat.reduceEqDiff, Nat.reduceAdd, Nat.reduceSub, Nat.reduceMul, Nat.reduceLT, Nat.reduceLeDiff, Nat.reduceBEq, Nat.reduceDiv, Nat.reduceMod, Int.reduceToNat, Int.reduceNeg, Int.reduceAdd, Int.reduceSub, Int.reduceMul, Int.reduceEq, Int.reduceNe, Int.reduceLT, Int.reduceLE, Int.reduceGT, Int.reduceGE, f0, f2]
          refine newI_intro fun id4 hid4 => ?_
          have L4 := L3.new hid4 (.cells 79 [[.int .i64 p.key, .int .i64 p.val]] 0)
          have k42 := lt_of_bnd hid4 L3.nod
          simp -implicitDefEqProofs (maxSteps := 1000000) (disch := omega) only [↓xsP, ↓vc_seq, xsQ, xsT, xsR, xsD, ↓reduceIte, reduceCtorEq, eq_self, ne_eq, imp_self, forall_const, Nat.reduceEqDiff, Nat.reduceAdd, Nat.reduceSub, Nat.reduceMul, Nat.reduceLT, Nat.reduceLeDiff, Nat.reduceBEq, Nat.reduceDiv, Nat.reduceMod, Int.reduceToNat, Int.reduceNeg, Int.reduceAdd, Int.reduceSub, Int.reduceMul, Int.reduceEq, Int.reduceNe, Int.reduceLT, Int.reduceLE, Int.reduceGT, Int.reduceGE, f0, f2, L3.nod]
          obtain ⟨g1, g2, g3, g4⟩ := L4.put hM2 hne2 (.cells 46 [[.bool false, .int .i64 0, .int .i64 0, .int .i64 0, xp, .int .i64 0]] 0)
          refine leaf_fin g1 (le_upd g3 g4) ⟨s3, by omega, rfl, .inr ⟨hI.none h124 fun w q u hww => ?_, leafN ps 0, rfl⟩⟩
          rw [if_neg hp0] at hww
          rw [hw] at hww
          injection hww with _ hww
          rw [← hww]
          exact hno q u
      · rw [decide_eq_false h44]
        have hLn := L.nod
        simp -implicitDefEqProofs (maxSteps := 1000000) (disch := omega) only [↓xsP, ↓vc_seq, xsQ, xsT, xsR, xsD, ↓reduceIte, reduceCtorEq, eq_self, ne_eq, imp_self, forall_const, Nat.reduceEqDiff, Nat.reduceAdd, Nat.reduceSub, Nat.reduceMul, Nat.reduceLT, Nat.reduceLeDiff, Nat.reduceBEq, Nat.reduceDiv, Nat.reduceMod, Int.reduceToNat, Int.reduceNeg, Int.reduceAdd, Int.reduceSub, Int.reduceMul, Int.reduceEq, Int.reduceNe, Int.reduceLT, Int.reduceLE, Int.reduceGT, Int.reduceGE, f0, f2, w0, hLn]
        obtain ⟨g1, g2, g3, g4⟩ := L.put hM2 hne2 (.cells 46 [[.bool false, .int .i64 0, .int .i64 0, .int .i64 0, xp, .int .i64 0]] 0)
        refine leaf_fin g1 (le_upd g3 g4) ⟨cutc 44 s1, by omega, rfl, .inr ⟨hI.none h124 fun w q u hww => ?_, leafN ps 0, rfl⟩⟩
        rw [if_neg hp0] at hww
        rw [hww] at h44
        exact absurd rfl h44
end Go.X
set_option linter.unusedVariables false
set_option linter.unusedSimpArgs false
set_option maxHeartbeats 20000000
set_option maxRecDepth 100000
namespace Go.X
open Go.Proofs.Tryd (prog)

structure RSt (B N : Mem) (id : Nat) (s : List UInt8) (left : Int) (rows : List (List Lf)) (xn : Lf) : Prop where
  own : N id = some (rdB s left xn)
  bid : B id = none
  le : B.le N
  nds : (rows = [] ∧ xn = .nils) ∨ ∃ idn, xn = .ms idn 0 rows.length ∧ N idn = some (.cells 46 rows 0) ∧ B idn = none
theorem RSt.ms {B N : Mem} {id : Nat} {s : List UInt8} {left : Int} {rows : List (List Lf)} {xn : Lf} (h : RSt B N id s left rows xn) (hr : rows ≠ []) : ∃ idn, xn = .ms idn 0 rows.length ∧ N idn = some (.cells 46 rows 0) ∧ B idn = none ∧ idn ≠ id := by
  rcases h.nds with ⟨h, _⟩ | ⟨idn, h1, h2, h3⟩
  · exact absurd h hr
  · refine ⟨idn, h1, h2, h3, fun e => ?_⟩
    have := h.own
    rw [← e, h2] at this
    injection this with this
    injection this with this
    exact absurd this (by decide)
theorem RSt.set {B N : Mem} {id : Nat} {s : List UInt8} {left : Int} {rows : List (List Lf)} {xn : Lf} (h : RSt B N id s left rows xn) (s' : List UInt8) (left' : Int) : RSt B (N.set id (rdB s' left' xn)) id s' left' rows xn := by
  refine ⟨Mem.set_eq _ _ _, h.bid, fun k bk hk => ?_, ?_⟩
  · rw [Mem.set_ne _ _ _ _ (fun e => by rw [← e, h.bid] at hk; cases hk)]
    exact h.le _ _ hk
  · by_cases hr : rows = []
    · rcases h.nds with h | ⟨idn, h1, h2, h3⟩
      · exact .inl h
      · refine .inr ⟨idn, h1, ?_, h3⟩
        rw [Mem.set_ne _ _ _ _ (fun e => ?_)]
        · exact h2
        · have := h.own
          rw [e, h2] at this
          injection this with this
          injection this with this
          exact absurd this (by decide)
    · obtain ⟨idn, h1, h2, h3, h4⟩ := h.ms hr
      exact .inr ⟨idn, h1, by rw [Mem.set_ne _ _ _ _ (Ne.symm h4)]; exact h2, h3⟩
theorem RSt.new {B N : Mem} {id : Nat} {s : List UInt8} {left : Int} {rows : List (List Lf)} {xn : Lf} (h : RSt B N id s left rows xn) {i : Nat} (hi : ∀ j, i ≤ j → N j = none) (X : Blk) : RSt B (N.set i X) id s left rows xn := by
  have k1 := lt_of_bnd hi h.own
  refine ⟨by rw [Mem.set_ne _ _ _ _ (by omega)]; exact h.own, h.bid, fun k bk hk => ?_, ?_⟩
  · have h1 := h.le _ _ hk
    have := lt_of_bnd hi h1
    rw [Mem.set_ne _ _ _ _ (by omega)]
    exact h1
  · rcases h.nds with h' | ⟨idn, h1, h2, h3⟩
    · exact .inl h'
    · have := lt_of_bnd hi h2
      exact .inr ⟨idn, h1, by rw [Mem.set_ne _ _ _ _ (by omega)]; exact h2, h3⟩
def R6 (rows : List (List Lf)) : Prop := ∀ r ∈ rows, r.length = 6
/-- A tree's nodes as they are read: a route's pairs are nil. -/
def preR : Nat → Tr → List (List Lf)
  | _, .leaf ps st => [(leafN ps st).row]
  | h, .fork k l r => [.bool true, .int .i64 k, .int .i64 ((h + 1 : Nat) : Int), .int .i64 ((h + 1 + l.size : Nat) : Int), .nils, .int .i64 0] :: (preR (h + 1) l ++ preR (h + 1 + l.size) r)
theorem preR_len : ∀ (T : Tr) (h : Nat), (preR h T).length = T.size
  | .leaf _ _, _ => rfl
  | .fork k l r, h => by simp [preR, preR_len l, preR_len r, Tr.size]; omega
theorem preR_6 : ∀ (T : Tr) (h : Nat), R6 (preR h T)
  | .leaf _ _, _ => fun r hr => by
    rw [preR] at hr
    rw [List.mem_singleton.1 hr]
    rfl
  | .fork k l r, h => fun x hx => by
    rw [preR] at hx
    rcases List.mem_cons.1 hx with rfl | hx
    · rfl
    · rcases List.mem_append.1 hx with hx | hx
      · exact preR_6 l _ x hx
      · exact preR_6 r _ x hx
theorem preR_wk : ∀ (T : Tr) (h : Nat), (preR h T).map (fun r => r.map wkL) = (preN h T).map Nd.row
  | .leaf _ _, _ => by simp [preR, preN, Nd.row, wkL]
  | .fork k l r, h => by simp [preR, preN, preR_wk l, preR_wk r, Nd.row, forkN, wkL]
/-- What node tells. -/
def NodeK (B : Mem) (id : Nat) (s : List UInt8) (f : Nat) (rows : List (List Lf)) (r : AV) (N' : Mem) : Prop :=
  (∃ T t, ∃ f' : Nat, ∃ xn', TreeAt s T t ∧ T.size + f' = f ∧ r = .tup [.l (.int .i64 rows.length), .l (.bool true)] ∧ RSt B N' id t f' (rows ++ preR rows.length T) xn') ∨
  ((∀ T t, TreeAt s T t → f < T.size) ∧ ∃ n s' left' rows' xn', r = .tup [.l (.int .i64 n), .l (.bool false)] ∧ RSt B N' id s' left' rows' xn' ∧ rows.length ≤ rows'.length ∧ rows'.length ≤ rows.length + f ∧ R6 rows')
def NodeP (B : Mem) (id : Nat) (f : Nat) : Prop := ∀ (s : List UInt8) (rows : List (List Lf)) (xn : Lf) (N : Mem), s.length ≤ 1000000 → rows.length + f ≤ 100000 → R6 rows → RSt B N id s f rows xn →
  XCalls Go.Proofs.Tryd.prog 24 [.l (.ptr id 0 0)] N (NodeK B id s f rows)
def ForkAt (s : List UInt8) (k : Int) (l r : Tr) (t : List UInt8) : Prop := ∃ b c, TreeAt s l (32 :: b) ∧ NumAt b k (32 :: c) ∧ TreeAt c r (41 :: t)
def RouteK (B : Mem) (id : Nat) (s : List UInt8) (f : Nat) (rows : List (List Lf)) (r : AV) (N' : Mem) : Prop :=
  (∃ k L R t, ∃ f' : Nat, ∃ xn', ForkAt s k L R t ∧ L.size + R.size + f' = f ∧ r = .l (.bool true) ∧ RSt B N' id t f' (rows ++ preR rows.length (.fork k L R)) xn') ∨
  ((∀ k L R t, ForkAt s k L R t → f < L.size + R.size) ∧ ∃ s' left' rows' xn', r = .l (.bool false) ∧ RSt B N' id s' left' rows' xn' ∧ rows.length ≤ rows'.length ∧ rows'.length ≤ rows.length + 1 + f ∧ R6 rows')
theorem treeAt_len : ∀ {T : Tr} {s t : List UInt8}, TreeAt s T t → t.length < s.length
  | .leaf ps st, s, t, ⟨a, u, h1, h2, h3⟩ => by
    have g3 := numAt_len h3
    have key : ∀ (ps : List Pr) (b : Bool) (a t : List UInt8), PrsAt b a ps t → t.length ≤ a.length := by
      intro ps
      induction ps with
      | nil => intro b a t h; cases b <;> (rw [show a = t from h]; exact Nat.le_refl _)
      | cons p r ih =>
        intro b a t h
        cases b with
        | true =>
          obtain ⟨u, g1, g2⟩ := h
          have := pairAt_len g1
          have := ih _ _ _ g2
          omega
        | false =>
          obtain ⟨w, u, g0, g1, g2⟩ := h
          have := pairAt_len g1
          have := ih _ _ _ g2
          rw [g0, List.length_cons]
          omega
    have := key _ _ _ _ h2
    rw [h1]
    simp only [List.length_cons] at *
    omega
  | .fork k l r, s, t, ⟨a, b, c, h1, h2, h3, h4⟩ => by
    have g2 := treeAt_len h2
    have g3 := numAt_len h3
    have g4 := treeAt_len h4
    rw [h1]
    simp only [List.length_cons] at *
    omega
theorem prsAt_uniq {s0 : List UInt8} {ps : List Pr} {u : List UInt8} : ∀ {b : Bool} {s : List UInt8} {ps qs : List Pr} {t u : List UInt8}, PrsAt b s ps (124 :: t) → PrsAt b s qs (124 :: u) → ps = qs ∧ t = u := by
  intro b s ps
  induction ps generalizing b s with
  | nil =>
    intro qs t u h h'
    have e : s = 124 :: t := by cases b <;> exact h
    rw [e] at h'
    obtain ⟨rfl, e2⟩ := prsAt_124 h'
    injection e2 with _ e2
    exact ⟨rfl, e2⟩
  | cons p r ih =>
    intro qs t u h h'
    cases qs with
    | nil =>
      have e : s = 124 :: u := by cases b <;> exact h'
      rw [e] at h
      obtain ⟨h, _⟩ := prsAt_124 h
      cases h
    | cons q r' =>
      cases b with
      | true =>
        obtain ⟨v, g1, g2⟩ := h
        obtain ⟨v', g1', g2'⟩ := h'
        obtain ⟨rfl, rfl⟩ := pairAt_uniq g1 g1'
        obtain ⟨rfl, rfl⟩ := ih g2 g2'
        exact ⟨rfl, rfl⟩
      | false =>
        obtain ⟨w, v, g0, g1, g2⟩ := h
        obtain ⟨w', v', g0', g1', g2'⟩ := h'
        rw [g0] at g0'
        injection g0' with _ g0'
        subst g0'
        obtain ⟨rfl, rfl⟩ := pairAt_uniq g1 g1'
        obtain ⟨rfl, rfl⟩ := ih g2 g2'
        exact ⟨rfl, rfl⟩
theorem leafAt_uniq {s : List UInt8} {ps qs : List Pr} {st st' : Int} {t u : List UInt8} (h : LeafAt s ps st t) (h' : LeafAt s qs st' u) : ps = qs ∧ st = st' ∧ t = u := by
  obtain ⟨a, h1, h2⟩ := h
  obtain ⟨b, g1, g2⟩ := h'
  obtain ⟨rfl, rfl⟩ := prsAt_uniq (s0 := s) (ps := ps) (u := t) h1 g1
  obtain ⟨rfl, e⟩ := numAt_uniq h2 g2
  injection e with _ e
  exact ⟨rfl, rfl, e⟩
theorem treeAt_uniq : ∀ {T : Tr} {s t : List UInt8} {U : Tr} {u : List UInt8}, TreeAt s T t → TreeAt s U u → T = U ∧ t = u
  | .leaf ps st, s, t, .leaf qs st', u, ⟨a, b, h1, h2, h3⟩, ⟨a', b', g1, g2, g3⟩ => by
    rw [h1] at g1
    injection g1 with _ g1
    subst g1
    obtain ⟨rfl, rfl, rfl⟩ := leafAt_uniq ⟨b, h2, h3⟩ ⟨b', g2, g3⟩
    exact ⟨rfl, rfl⟩
  | .leaf ps st, s, t, .fork k l r, u, ⟨a, b, h1, h2, h3⟩, ⟨a', b', c', g1, g2, g3, g4⟩ => by
    rw [h1] at g1
    injection g1 with g1 _
    exact absurd g1 (by decide)
  | .fork k l r, s, t, .leaf qs st', u, ⟨a', b', c', g1, g2, g3, g4⟩, ⟨a, b, h1, h2, h3⟩ => by
    rw [h1] at g1
    injection g1 with g1 _
    exact absurd g1 (by decide)
  | .fork k l r, s, t, .fork k' l' r', u, ⟨a, b, c, h1, h2, h3, h4⟩, ⟨a', b', c', g1, g2, g3, g4⟩ => by
    rw [h1] at g1
    injection g1 with _ g1
    subst g1
    obtain ⟨rfl, e⟩ := treeAt_uniq h2 g2
    injection e with _ e
    subst e
    obtain ⟨rfl, e⟩ := numAt_uniq h3 g3
    injection e with _ e
    subst e
    obtain ⟨rfl, e⟩ := treeAt_uniq h4 g4
    injection e with _ e
    exact ⟨rfl, e⟩
end Go.X
set_option linter.unusedVariables false
set_option linter.unusedSimpArgs false
set_option maxHeartbeats 20000000
set_option maxRecDepth 100000
namespace Go.X
open Go.Proofs.Tryd (prog)

theorem route_spec (B : Mem) (id f : Nat) (ih : ∀ g, g ≤ f → NodeP B id g) (s : List UInt8) (rows : List (List Lf)) (ph : List Lf) (xn : Lf) (N : Mem) (hs : s.length ≤ 1000000) (hf : rows.length + 1 + f ≤ 100000) (h6 : R6 (rows ++ [ph])) (hR : RSt B N id s f (rows ++ [ph]) xn) :
    XCalls Go.Proofs.Tryd.prog 40 [.l (.ptr id 0 0), .l (.int .i64 rows.length)] N (RouteK B id s f rows) := by
  refine xcalls_intro (rs := [.tmp 4]) Go.Proofs.Tryd.func40 rfl (by kernel_rfl) rfl rfl (by kernel_rfl) (by simp) ?_
  simp -implicitDefEqProofs (maxSteps := 1000000) (disch := omega) only [↓xsP, ↓vc_seq, xsQ, xsT, xsR, xsD, ↓reduceIte, reduceCtorEq, eq_self, ne_eq, imp_self, forall_const, Nat.reduceEqDiff, Nat.reduceAdd, Nat.reduceSub, Nat.reduceMul, Nat.reduceLT, Nat.reduceLeDiff, Nat.reduceBEq, Nat.reduceDiv, Nat.reduceMod, Int.reduceToNat, Int.reduceNeg, Int.reduceAdd, Int.reduceSub, Int.reduceMul, Int.reduceEq, Int.reduceNe, Int.reduceLT, Int.reduceLE, Int.reduceGT, Int.reduceGE]
  refine callI_of ((ih f (Nat.le_refl _) s (rows ++ [ph]) xn N hs (by simp; omega) h6 hR).mono ?_)
  rintro r' N1 (⟨T, t, f1, xn1, hT, hsz, rfl, hR1⟩ | ⟨hno, n, s1, left1, rows1, xn1, rfl, hR1, hl1, hl2, h61⟩)
  rotate_left
  · simp -implicitDefEqProofs (maxSteps := 1000000) (disch := omega) only [↓xsP, ↓vc_seq, xsQ, xsT, xsR, xsD, ↓reduceIte, reduceCtorEq, eq_self, ne_eq, imp_self, forall_const, Nat.reduceEqDiff, Nat.reduceAdd, Nat.reduceSub, Nat.reduceMul, Nat.reduceLT, Nat.reduceLeDiff, Nat.reduceBEq, Nat.reduceDiv, Nat.reduceMod, Int.reduceToNat, Int.reduceNeg, Int.reduceAdd, Int.reduceSub, Int.reduceMul, Int.reduceEq, Int.reduceNe, Int.reduceLT, Int.reduceLE, Int.reduceGT, Int.reduceGE]
    refine fin_ok (Mem.le_refl _) (.inr ⟨fun k L R t ⟨b, c, g1, g2, g3⟩ => ?_, s1, left1, rows1, xn1, rfl, hR1, by simp at hl1; omega, by simp at hl2; omega, h61⟩)
    have := hno _ _ g1
    omega
  have htl := treeAt_len hT
  simp -implicitDefEqProofs (maxSteps := 1000000) (disch := omega) only [↓xsP, ↓vc_seq, xsQ, xsT, xsR, xsD, ↓reduceIte, reduceCtorEq, eq_self, ne_eq, imp_self, forall_const, Nat.reduceEqDiff, Nat.reduceAdd, Nat.reduceSub, Nat.reduceMul, Nat.reduceLT, Nat.reduceLeDiff, Nat.reduceBEq, Nat.reduceDiv, Nat.reduceMod, Int.reduceToNat, Int.reduceNeg, Int.reduceAdd, Int.reduceSub, Int.reduceMul, Int.reduceEq, Int.reduceNe, Int.reduceLT, Int.reduceLE, Int.reduceGT, Int.reduceGE]
  refine callI_of ((sign_spec t f1 xn1 32 id N1 hR1.own).mono ?_)
  rintro _ _ ⟨rfl, rfl⟩
  have hcl := cutc_len 32 t
  have hR2 := hR1.set (cutc 32 t) f1
  generalize N1.set id (rdB (cutc 32 t) f1 xn1) = N2 at hR2 ⊢
  have hrl : ((rows ++ [ph]) ++ preR (rows ++ [ph]).length T).length = rows.length + 1 + T.size := by simp [preR_len]; omega
  have h6a : R6 ((rows ++ [ph]) ++ preR (rows ++ [ph]).length T) := fun r hr => by
    rcases List.mem_append.1 hr with hr | hr
    · exact h6 r hr
    · exact preR_6 _ _ r hr
  by_cases h32 : t.head? = some 32
  rotate_left
  · rw [decide_eq_false h32]
    simp -implicitDefEqProofs (maxSteps := 1000000) (disch := omega) only [↓xsP, ↓vc_seq, xsQ, xsT, xsR, xsD, ↓reduceIte, reduceCtorEq, eq_self, ne_eq, imp_self, forall_const, Nat.reduceEqDiff, Nat.reduceAdd, Nat.reduceSub, Nat.reduceMul, Nat.reduceLT, Nat.reduceLeDiff, Nat.reduceBEq, Nat.reduceDiv, Nat.reduceMod, Int.reduceToNat, Int.reduceNeg, Int.reduceAdd, Int.reduceSub, Int.reduceMul, Int.reduceEq, Int.reduceNe, Int.reduceLT, Int.reduceLE, Int.reduceGT, Int.reduceGE]
    refine fin_ok (Mem.le_refl _) (.inr ⟨fun k L R t' ⟨b, c, g1, g2, g3⟩ => ?_, _, _, _, _, rfl, hR2, by rw [hrl]; omega, by rw [hrl]; omega, h6a⟩)
    obtain ⟨rfl, e⟩ := treeAt_uniq g1 hT
    rw [← e] at h32
    exact absurd rfl h32
  rw [decide_eq_true h32]
  have ht32 := cutc_eq h32
  obtain ⟨s2, hs2⟩ : ∃ s2, cutc 32 t = s2 := ⟨_, rfl⟩
  rw [hs2] at hR2 ht32 hcl
  simp -implicitDefEqProofs (maxSteps := 1000000) (disch := omega) only [↓xsP, ↓vc_seq, xsQ, xsT, xsR, xsD, ↓reduceIte, reduceCtorEq, eq_self, ne_eq, imp_self, forall_const, Nat.reduceEqDiff, Nat.reduceAdd, Nat.reduceSub, Nat.reduceMul, Nat.reduceLT, Nat.reduceLeDiff, Nat.reduceBEq, Nat.reduceDiv, Nat.reduceMod, Int.reduceToNat, Int.reduceNeg, Int.reduceAdd, Int.reduceSub, Int.reduceMul, Int.reduceEq, Int.reduceNe, Int.reduceLT, Int.reduceLE, Int.reduceGT, Int.reduceGE]
  refine callI_of ((number_spec s2 (by omega) f1 xn1 id N2 hR2.own).mono ?_)
  have hd1 : (s2.drop (tok s2).length).length ≤ s2.length := by rw [List.length_drop]; omega
  obtain ⟨s3, hs3⟩ : ∃ s3, s2.drop (tok s2).length = s3 := ⟨_, rfl⟩
  rw [hs3] at hd1 ⊢
  rintro _ _ ⟨rfl, h⟩
  have hR3 := hR2.set s3 f1
  generalize N2.set id (rdB s3 f1 xn1) = N3 at hR3 ⊢
  rcases h with ⟨v, hv, rfl⟩ | ⟨hno, n, rfl⟩
  rotate_left
  · simp -implicitDefEqProofs (maxSteps := 1000000) (disch := omega) only [↓xsP, ↓vc_seq, xsQ, xsT, xsR, xsD, ↓reduceIte, reduceCtorEq, eq_self, ne_eq, imp_self, forall_const, Nat.reduceEqDiff, Nat.reduceAdd, Nat.reduceSub, Nat.reduceMul, Nat.reduceLT, Nat.reduceLeDiff, Nat.reduceBEq, Nat.reduceDiv, Nat.reduceMod, Int.reduceToNat, Int.reduceNeg, Int.reduceAdd, Int.reduceSub, Int.reduceMul, Int.reduceEq, Int.reduceNe, Int.reduceLT, Int.reduceLE, Int.reduceGT, Int.reduceGE]
    refine fin_ok (Mem.le_refl _) (.inr ⟨fun k L R t' ⟨b, c, g1, g2, g3⟩ => ?_, _, _, _, _, rfl, hR3, by rw [hrl]; omega, by rw [hrl]; omega, h6a⟩)
    obtain ⟨rfl, e⟩ := treeAt_uniq g1 hT
    rw [ht32] at e
    injection e with _ e
    rw [e] at g2
    exact absurd g2 (hno _ _)
  simp -implicitDefEqProofs (maxSteps := 1000000) (disch := omega) only [↓xsP, ↓vc_seq, xsQ, xsT, xsR, xsD, ↓reduceIte, reduceCtorEq, eq_self, ne_eq, imp_self, forall_const, Nat.reduceEqDiff, Nat.reduceAdd, Nat.reduceSub, Nat.reduceMul, Nat.reduceLT, Nat.reduceLeDiff, Nat.reduceBEq, Nat.reduceDiv, Nat.reduceMod, Int.reduceToNat, Int.reduceNeg, Int.reduceAdd, Int.reduceSub, Int.reduceMul, Int.reduceEq, Int.reduceNe, Int.reduceLT, Int.reduceLE, Int.reduceGT, Int.reduceGE]
  refine callI_of ((sign_spec s3 f1 xn1 32 id N3 hR3.own).mono ?_)
  rintro _ _ ⟨rfl, rfl⟩
  have hcl3 := cutc_len 32 s3
  have hR4 := hR3.set (cutc 32 s3) f1
  generalize N3.set id (rdB (cutc 32 s3) f1 xn1) = N4 at hR4 ⊢
  by_cases h32b : s3.head? = some 32
  rotate_left
  · rw [decide_eq_false h32b]
    simp -implicitDefEqProofs (maxSteps := 1000000) (disch := omega) only [↓xsP, ↓vc_seq, xsQ, xsT, xsR, xsD, ↓reduceIte, reduceCtorEq, eq_self, ne_eq, imp_self, forall_const, Nat.reduceEqDiff, Nat.reduceAdd, Nat.reduceSub, Nat.reduceMul, Nat.reduceLT, Nat.reduceLeDiff, Nat.reduceBEq, Nat.reduceDiv, Nat.reduceMod, Int.reduceToNat, Int.reduceNeg, Int.reduceAdd, Int.reduceSub, Int.reduceMul, Int.reduceEq, Int.reduceNe, Int.reduceLT, Int.reduceLE, Int.reduceGT, Int.reduceGE]
    refine fin_ok (Mem.le_refl _) (.inr ⟨fun k L R t' ⟨b, c, g1, g2, g3⟩ => ?_, _, _, _, _, rfl, hR4, by rw [hrl]; omega, by rw [hrl]; omega, h6a⟩)
    obtain ⟨rfl, e⟩ := treeAt_uniq g1 hT
    rw [ht32] at e
    injection e with _ e
    rw [e] at g2
    have := (numAt_uniq g2 hv).2
    rw [← this] at h32b
    exact absurd rfl h32b
  rw [decide_eq_true h32b]
  have hs32 := cutc_eq h32b
  obtain ⟨s4, hs4⟩ : ∃ s4, cutc 32 s3 = s4 := ⟨_, rfl⟩
  rw [hs4] at hR4 hs32 hcl3
  simp -implicitDefEqProofs (maxSteps := 1000000) (disch := omega) only [↓xsP, ↓vc_seq, xsQ, xsT, xsR, xsD, ↓reduceIte, reduceCtorEq, eq_self, ne_eq, imp_self, forall_const, Nat.reduceEqDiff, Nat.reduceAdd, Nat.reduceSub, Nat.reduceMul, Nat.reduceLT, Nat.reduceLeDiff, Nat.reduceBEq, Nat.reduceDiv, Nat.reduceMod, Int.reduceToNat, Int.reduceNeg, Int.reduceAdd, Int.reduceSub, Int.reduceMul, Int.reduceEq, Int.reduceNe, Int.reduceLT, Int.reduceLE, Int.reduceGT, Int.reduceGE]
  have hTs := T.size_pos
  refine callI_of ((ih f1 (by omega) s4 _ xn1 N4 (by omega) (by rw [hrl]; omega) h6a hR4).mono ?_)
  rintro r' N5 h
  obtain ⟨nr, ok, s5, left5, rows5, xn5, rfl, hR5, hlen5, hlen5b, h65, hrest⟩ : ∃ nr ok s5 left5 rows5 xn5, r' = .tup [.l (.int .i64 nr), .l (.bool ok)] ∧ RSt B N5 id s5 left5 rows5 xn5 ∧ rows.length + 1 ≤ rows5.length ∧ rows5.length ≤ rows.length + 1 + f ∧ R6 rows5 ∧
      ((ok = true ∧ ∃ U, ∃ f2 : Nat, TreeAt s4 U s5 ∧ U.size + f2 = f1 ∧ left5 = f2 ∧ nr = ((rows.length + 1 + T.size : Nat) : Int) ∧ rows5 = ((rows ++ [ph]) ++ preR (rows ++ [ph]).length T) ++ preR (rows.length + 1 + T.size) U) ∨ (ok = false ∧ ∀ U u, TreeAt s4 U u → f1 < U.size)) := by
    rcases h with ⟨U, u, f2, xn2, hU, hsz2, rfl, hR5⟩ | ⟨hno, n, s5, left5, rows5, xn5, rfl, hR5, hl1, hl2, h65⟩
    · rw [hrl] at hR5 ⊢
      refine ⟨_, _, u, f2, _, xn2, rfl, hR5, ?_, ?_, ?_, .inl ⟨rfl, U, f2, hU, hsz2, rfl, rfl, rfl⟩⟩
      · rw [List.length_append, hrl]; omega
      · rw [List.length_append, hrl, preR_len]; omega
      · intro r hr
        rcases List.mem_append.1 hr with hr | hr
        · exact h6a r hr
        · exact preR_6 _ _ r hr
    · rw [hrl] at hl1 hl2
      exact ⟨n, false, s5, left5, rows5, xn5, rfl, hR5, by omega, by omega, h65, .inr ⟨rfl, hno⟩⟩
  simp -implicitDefEqProofs (maxSteps := 1000000) (disch := omega) only [↓xsP, ↓vc_seq, xsQ, xsT, xsR, xsD, ↓reduceIte, reduceCtorEq, eq_self, ne_eq, imp_self, forall_const, Nat.reduceEqDiff, Nat.reduceAdd, Nat.reduceSub, Nat.reduceMul, Nat.reduceLT, Nat.reduceLeDiff, Nat.reduceBEq, Nat.reduceDiv, Nat.reduceMod, Int.reduceToNat, Int.reduceNeg, Int.reduceAdd, Int.reduceSub, Int.reduceMul, Int.reduceEq, Int.reduceNe, Int.reduceLT, Int.reduceLE, Int.reduceGT, Int.reduceGE]
  obtain ⟨idn, rfl, hn, hBn, hni⟩ := hR5.ms (fun e => by rw [e] at hlen5; simp at hlen5)
  have hown := hR5.own
  rw [rdB] at hown
  obtain ⟨row, hrow⟩ : ∃ row, rows5[rows.length]? = some row := ⟨_, List.getElem?_eq_getElem (by omega)⟩
  have hr6 : row.length = 6 := h65 row (List.mem_of_getElem? hrow)
  have hdr : row.drop 6 = [] := List.drop_of_length_le (by omega)
  simp -implicitDefEqProofs (maxSteps := 1000000) (disch := omega) only [↓xsP, ↓vc_seq, xsQ, xsT, xsR, xsD, ↓reduceIte, reduceCtorEq, eq_self, ne_eq, imp_self, forall_const, Nat.reduceEqDiff, Nat.reduceAdd, Nat.reduceSub, Nat.reduceMul, Nat.reduceLT, Nat.reduceLeDiff, Nat.reduceBEq, Nat.reduceDiv, Nat.reduceMod, Int.reduceToNat, Int.reduceNeg, Int.reduceAdd, Int.reduceSub, Int.reduceMul, Int.reduceEq, Int.reduceNe, Int.reduceLT, Int.reduceLE, Int.reduceGT, Int.reduceGE, hown, hn, hrow, hr6, hdr]
  have hR6 : RSt B (N5.set idn (.cells 46 (rows5.set rows.length [.bool true, .int .i64 v, .int .i64 ((rows ++ [ph]).length : Nat), .int .i64 nr, .nils, .int .i64 0]) 0)) id s5 left5 (rows5.set rows.length [.bool true, .int .i64 v, .int .i64 ((rows ++ [ph]).length : Nat), .int .i64 nr, .nils, .int .i64 0]) (.ms idn 0 rows5.length) := by
    refine ⟨by rw [Mem.set_ne _ _ _ _ hni]; exact hR5.own, hR5.bid, fun k bk hk => ?_, .inr ⟨idn, by rw [List.length_set], Mem.set_eq _ _ _, hBn⟩⟩
    rw [Mem.set_ne _ _ _ _ (fun e => by rw [← e, hBn] at hk; cases hk)]
    exact hR5.le _ _ hk
  have h6s : ∀ nw : List Lf, nw.length = 6 → Go.X.R6 (rows5.set rows.length nw) := fun nw hnw r hr => by
    rcases List.mem_or_eq_of_mem_set hr with hr | rfl
    · exact h65 r hr
    · exact hnw
  rcases hrest with ⟨rfl, U, f2, hU, hsz2, rfl, rfl, hr5⟩ | ⟨rfl, hno⟩
  rotate_left
  · simp -implicitDefEqProofs (maxSteps := 1000000) (disch := omega) only [↓xsP, ↓vc_seq, xsQ, xsT, xsR, xsD, ↓reduceIte, reduceCtorEq, eq_self, ne_eq, imp_self, forall_const, Nat.reduceEqDiff, Nat.reduceAdd, Nat.reduceSub, Nat.reduceMul, Nat.reduceLT, Nat.reduceLeDiff, Nat.reduceBEq, Nat.reduceDiv, Nat.reduceMod, Int.reduceToNat, Int.reduceNeg, Int.reduceAdd, Int.reduceSub, Int.reduceMul, Int.reduceEq, Int.reduceNe, Int.reduceLT, Int.reduceLE, Int.reduceGT, Int.reduceGE]
    refine fin_ok (Mem.le_refl _) (.inr ⟨fun k L R t' ⟨b, c, g1, g2, g3⟩ => ?_, s5, left5, _, _, rfl, hR6, by rw [List.length_set]; omega, by rw [List.length_set]; omega, h6s _ rfl⟩)
    obtain ⟨rfl, e⟩ := treeAt_uniq g1 hT
    rw [ht32] at e
    injection e with _ e
    rw [e] at g2
    obtain ⟨rfl, e2⟩ := numAt_uniq g2 hv
    rw [hs32] at e2
    injection e2 with _ e2
    rw [e2] at g3
    have := hno _ _ g3
    omega
  simp -implicitDefEqProofs (maxSteps := 1000000) (disch := omega) only [↓xsP, ↓vc_seq, xsQ, xsT, xsR, xsD, ↓reduceIte, reduceCtorEq, eq_self, ne_eq, imp_self, forall_const, Nat.reduceEqDiff, Nat.reduceAdd, Nat.reduceSub, Nat.reduceMul, Nat.reduceLT, Nat.reduceLeDiff, Nat.reduceBEq, Nat.reduceDiv, Nat.reduceMod, Int.reduceToNat, Int.reduceNeg, Int.reduceAdd, Int.reduceSub, Int.reduceMul, Int.reduceEq, Int.reduceNe, Int.reduceLT, Int.reduceLE, Int.reduceGT, Int.reduceGE]
  refine callI_of ((sign_spec s5 f2 _ 41 id _ hR6.own).mono ?_)
  rintro _ _ ⟨rfl, rfl⟩
  have hR7 := hR6.set (cutc 41 s5) f2
  simp -implicitDefEqProofs (maxSteps := 1000000) (disch := omega) only [↓xsP, ↓vc_seq, xsQ, xsT, xsR, xsD, ↓reduceIte, reduceCtorEq, eq_self, ne_eq, imp_self, forall_const, Nat.reduceEqDiff, Nat.reduceAdd, Nat.reduceSub, Nat.reduceMul, Nat.reduceLT, Nat.reduceLeDiff, Nat.reduceBEq, Nat.reduceDiv, Nat.reduceMod, Int.reduceToNat, Int.reduceNeg, Int.reduceAdd, Int.reduceSub, Int.reduceMul, Int.reduceEq, Int.reduceNe, Int.reduceLT, Int.reduceLE, Int.reduceGT, Int.reduceGE]
  by_cases h41 : s5.head? = some 41
  rotate_left
  · rw [decide_eq_false h41]
    refine fin_ok (Mem.le_refl _) (.inr ⟨fun k L R t' ⟨b, c, g1, g2, g3⟩ => ?_, _, _, _, _, rfl, hR7, by rw [List.length_set]; omega, by rw [List.length_set]; omega, h6s _ rfl⟩)
    obtain ⟨rfl, e⟩ := treeAt_uniq g1 hT
    rw [ht32] at e
    injection e with _ e
    rw [e] at g2
    obtain ⟨rfl, e2⟩ := numAt_uniq g2 hv
    rw [hs32] at e2
    injection e2 with _ e2
    rw [e2] at g3
    obtain ⟨rfl, e3⟩ := treeAt_uniq g3 hU
    rw [← e3] at h41
    exact absurd rfl h41
  rw [decide_eq_true h41]
  refine fin_ok (Mem.le_refl _) (.inl ⟨v, T, U, cutc 41 s5, f2, .ms idn 0 rows5.length, ⟨s2, s4, ?_, ?_, ?_⟩, by omega, rfl, ?_⟩)
  · rw [← ht32]; exact hT
  · rw [← hs32]; exact hv
  · rw [← cutc_eq h41]; exact hU
  · have e : rows5.set rows.length [.bool true, .int .i64 v, .int .i64 ((rows ++ [ph]).length : Nat), .int .i64 ((rows.length + 1 + T.size : Nat) : Int), .nils, .int .i64 0] = rows ++ preR rows.length (.fork v T U) := by
      rw [hr5, List.append_assoc, List.append_assoc, List.singleton_append, set_mid]
      simp [preR]
    generalize Mem.set (Mem.set N5 _ _) _ _ = Q at hR7 ⊢
    rw [e] at hR7
    exact hR7
theorem RSt.sb {B N : Mem} {id : Nat} {s : List UInt8} {left : Int} {rows : List (List Lf)} {xn : Lf} (h : RSt B N id s left rows xn) : ∃ N0, SB 46 N xn rows N0 ∧ B.le N0 ∧ N0 id = some (rdB s left xn) := by
  by_cases hr : rows = []
  · rcases h.nds with ⟨rfl, rfl⟩ | ⟨idn, h1, h2, h3⟩
    · exact ⟨N, .nil, h.le, h.own⟩
    · rw [h1]
      refine ⟨_, .ms h2, fun k bk hk => ?_, ?_⟩
      · rw [Mem.del_ne _ _ _ (fun e => by rw [← e, h3] at hk; cases hk)]
        exact h.le _ _ hk
      · rw [Mem.del_ne _ _ _ (fun e => ?_), h.own, h1]
        have := h.own
        rw [← e, h2] at this
        injection this with this
        injection this with this
        exact absurd this (by decide)
  · obtain ⟨idn, h1, h2, h3, h4⟩ := h.ms hr
    rw [h1]
    refine ⟨_, .ms h2, fun k bk hk => ?_, ?_⟩
    · rw [Mem.del_ne _ _ _ (fun e => by rw [← e, h3] at hk; cases hk)]
      exact h.le _ _ hk
    · rw [Mem.del_ne _ _ _ h4, h.own, h1]
theorem node_spec (B : Mem) (id : Nat) : ∀ f : Nat, NodeP B id f := by
  intro f
  induction f using Nat.strongRecOn with
  | ind f ihf =>
  intro s rows xn N hs hf h6 hR
  refine xcalls_intro (rs := [.tmp 2, .tmp 3]) Go.Proofs.Tryd.func24 rfl (by kernel_rfl) rfl rfl (by kernel_rfl) (by simp) ?_
  have hown := hR.own
  rw [rdB] at hown
  have hln : ∀ X : Mem, lenA Go.Proofs.Tryd.prog X 22 (.l xn) = some (.l (.int .i64 rows.length)) := fun X => by
    rcases hR.nds with ⟨rfl, rfl⟩ | ⟨idn, rfl, _, _⟩ <;> simp only [lenA, ti_22] <;> rfl
  simp only [lenA, ti_22] at hln
  simp -implicitDefEqProofs (maxSteps := 1000000) (disch := omega) only [↓xsP, ↓vc_seq, xsQ, xsT, xsR, xsD, ↓reduceIte, reduceCtorEq, eq_self, ne_eq, imp_self, forall_const, Nat.reduceEqDiff, Nat.reduceAdd, Nat.reduceSub, Nat.reduceMul, Nat.reduceLT, Nat.reduceLeDiff, Nat.reduceBEq, Nat.reduceDiv, Nat.reduceMod, Int.reduceToNat, Int.reduceNeg, Int.reduceAdd, Int.reduceSub, Int.reduceMul, Int.reduceEq, Int.reduceNe, Int.reduceLT, Int.reduceLE, Int.reduceGT, Int.reduceGE, hown, hln]
  have hR0 := hR.set s ((f : Int) - 1)
  rw [rdB] at hR0
  by_cases hf0 : f = 0
  · have w0 : decide ((f : Int) - 1 < 0) = true := decide_eq_true (by omega)
    simp -implicitDefEqProofs (maxSteps := 1000000) (disch := omega) only [↓xsP, ↓vc_seq, xsQ, xsT, xsR, xsD, ↓reduceIte, reduceCtorEq, eq_self, ne_eq, imp_self, forall_const, Nat.reduceEqDiff, Nat.reduceAdd, Nat.reduceSub, Nat.reduceMul, Nat.reduceLT, Nat.reduceLeDiff, Nat.reduceBEq, Nat.reduceDiv, Nat.reduceMod, Int.reduceToNat, Int.reduceNeg, Int.reduceAdd, Int.reduceSub, Int.reduceMul, Int.reduceEq, Int.reduceNe, Int.reduceLT, Int.reduceLE, Int.reduceGT, Int.reduceGE, hown, hln, w0]
    refine fin_ok (Mem.le_refl _) (.inr ⟨fun T t hT => ?_, 0, s, _, rows, xn, rfl, hR0, Nat.le_refl _, by omega, h6⟩)
    have := T.size_pos
    omega
  have w0 : decide ((f : Int) - 1 < 0) = false := decide_eq_false (by omega)
  obtain ⟨g, rfl⟩ : ∃ g, f = g + 1 := ⟨f - 1, by omega⟩
  have hg : ((g + 1 : Nat) : Int) - 1 = g := by omega
  rw [hg] at hR0 w0
  simp -implicitDefEqProofs (maxSteps := 1000000) (disch := omega) only [↓xsP, ↓vc_seq, xsQ, xsT, xsR, xsD, ↓reduceIte, reduceCtorEq, eq_self, ne_eq, imp_self, forall_const, Nat.reduceEqDiff, Nat.reduceAdd, Nat.reduceSub, Nat.reduceMul, Nat.reduceLT, Nat.reduceLeDiff, Nat.reduceBEq, Nat.reduceDiv, Nat.reduceMod, Int.reduceToNat, Int.reduceNeg, Int.reduceAdd, Int.reduceSub, Int.reduceMul, Int.reduceEq, Int.reduceNe, Int.reduceLT, Int.reduceLE, Int.reduceGT, Int.reduceGE, hown, hln, hg, w0]
  refine newI_intro fun idp hidp => ?_
  have hown1 := hR0.own
  have kip := lt_of_bnd hidp hown1
  have hRp := hR0.new hidp (.cells 46 [[.bool false, .int .i64 0, .int .i64 0, .int .i64 0, .nils, .int .i64 0]] 0)
  rw [rdB] at hown1
  simp -implicitDefEqProofs (maxSteps := 1000000) (disch := omega) only [↓xsP, ↓vc_seq, xsQ, xsT, xsR, xsD, ↓reduceIte, reduceCtorEq, eq_self, ne_eq, imp_self, forall_const, Nat.reduceEqDiff, Nat.reduceAdd, Nat.reduceSub, Nat.reduceMul, Nat.reduceLT, Nat.reduceLeDiff, Nat.reduceBEq, Nat.reduceDiv, Nat.reduceMod, Int.reduceToNat, Int.reduceNeg, Int.reduceAdd, Int.reduceSub, Int.reduceMul, Int.reduceEq, Int.reduceNe, Int.reduceLT, Int.reduceLE, Int.reduceGT, Int.reduceGE, hown1, hln, hg, w0]
  obtain ⟨N0, hsb, hle0, hown0⟩ := hRp.sb
  refine app_sb ti_22 rfl ti_46 (by kernel_rfl) (by decide) (by decide) hsb (bs := [[.bool false, .int .i64 0, .int .i64 0, .int .i64 0, .nils, .int .i64 0]]) (by unfold srcRows; rw [if_pos rfl]; simp only [Mem.set_eq]; rfl) (by simp) (by simp only [List.length_cons, List.length_nil]; omega) (fun id1 hid1 => ?_)
  have ki1 := lt_of_bnd hid1 hRp.own
  rw [rdB] at hown0
  simp -implicitDefEqProofs (maxSteps := 1000000) (disch := omega) only [↓xsP, ↓vc_seq, xsQ, xsT, xsR, xsD, ↓reduceIte, reduceCtorEq, eq_self, ne_eq, imp_self, forall_const, Nat.reduceEqDiff, Nat.reduceAdd, Nat.reduceSub, Nat.reduceMul, Nat.reduceLT, Nat.reduceLeDiff, Nat.reduceBEq, Nat.reduceDiv, Nat.reduceMod, Int.reduceToNat, Int.reduceNeg, Int.reduceAdd, Int.reduceSub, Int.reduceMul, Int.reduceEq, Int.reduceNe, Int.reduceLT, Int.reduceLE, Int.reduceGT, Int.reduceGE, hown1, hown0, hln, hg, w0]
  obtain ⟨ph, hph⟩ : ∃ ph : List Lf, [.bool false, .int .i64 0, .int .i64 0, .int .i64 0, .nils, .int .i64 0] = ph := ⟨_, rfl⟩
  have hph6 : ph.length = 6 := by rw [← hph]; rfl
  rw [hph]
  have hB1 : B id1 = none := by
    cases hb : B id1 with
    | none => rfl
    | some bk =>
      have := hsb.le _ _ (hle0 _ _ hb)
      rw [hid1 id1 (Nat.le_refl _)] at this
      cases this
  have hR2 : RSt B ((N0.set id1 (.cells 46 (rows ++ [ph]) 0)).set id (.cells 49 [[txt s, .int .i64 g, .int .i64 0, .ms id1 0 (rows.length + 1)]] 0)) id s g (rows ++ [ph]) (.ms id1 0 (rows.length + 1)) := by
    refine ⟨Mem.set_eq _ _ _, hR.bid, fun k bk hk => ?_, .inr ⟨id1, by simp, ?_, hB1⟩⟩
    · rw [Mem.set_ne _ _ _ _ (fun e => by rw [← e, hR.bid] at hk; cases hk), Mem.set_ne _ _ _ _ (fun e => by rw [← e, hB1] at hk; cases hk)]
      exact hle0 _ _ hk
    · rw [Mem.set_ne _ _ _ _ (by omega), Mem.set_eq]
  generalize (N0.set id1 (.cells 46 (rows ++ [ph]) 0)).set id (.cells 49 [[txt s, .int .i64 g, .int .i64 0, .ms id1 0 (rows.length + 1)]] 0) = N2 at hR2 ⊢
  have h6a : R6 (rows ++ [ph]) := fun r hr => by
    rcases List.mem_append.1 hr with hr | hr
    · exact h6 r hr
    · rw [List.mem_singleton.1 hr]; exact hph6
  clear hln hown hown1 hown0 hsb hle0 hRp hR0 hid1 hidp
  refine callI_of ((sign_spec s g _ 40 id N2 hR2.own).mono ?_)
  rintro _ _ ⟨rfl, rfl⟩
  by_cases h40 : s.head? = some 40
  · rw [decide_eq_true h40]
    have hs40 := cutc_eq h40
    have hcl := cutc_len 40 s
    have hR3 := hR2.set (cutc 40 s) g
    generalize N2.set id (rdB (cutc 40 s) g (.ms id1 0 (rows.length + 1))) = N3 at hR3 ⊢
    simp -implicitDefEqProofs (maxSteps := 1000000) (disch := omega) only [↓xsP, ↓vc_seq, xsQ, xsT, xsR, xsD, ↓reduceIte, reduceCtorEq, eq_self, ne_eq, imp_self, forall_const, Nat.reduceEqDiff, Nat.reduceAdd, Nat.reduceSub, Nat.reduceMul, Nat.reduceLT, Nat.reduceLeDiff, Nat.reduceBEq, Nat.reduceDiv, Nat.reduceMod, Int.reduceToNat, Int.reduceNeg, Int.reduceAdd, Int.reduceSub, Int.reduceMul, Int.reduceEq, Int.reduceNe, Int.reduceLT, Int.reduceLE, Int.reduceGT, Int.reduceGE]
    refine callI_of ((route_spec B id g (fun h hh => ihf h (by omega)) (cutc 40 s) rows ph _ N3 (by omega) (by omega) h6a hR3).mono ?_)
    rintro _ N4 (⟨k, L, R, t, f1, xn1, ⟨b, c, g1, g2, g3⟩, hsz, rfl, hR4⟩ | ⟨hno, s1, left1, rows1, xn1, rfl, hR4, hl1, hl2, h61⟩)
    · simp -implicitDefEqProofs (maxSteps := 1000000) (disch := omega) only [↓xsP, ↓vc_seq, xsQ, xsT, xsR, xsD, ↓reduceIte, reduceCtorEq, eq_self, ne_eq, imp_self, forall_const, Nat.reduceEqDiff, Nat.reduceAdd, Nat.reduceSub, Nat.reduceMul, Nat.reduceLT, Nat.reduceLeDiff, Nat.reduceBEq, Nat.reduceDiv, Nat.reduceMod, Int.reduceToNat, Int.reduceNeg, Int.reduceAdd, Int.reduceSub, Int.reduceMul, Int.reduceEq, Int.reduceNe, Int.reduceLT, Int.reduceLE, Int.reduceGT, Int.reduceGE]
      refine fin_ok (Mem.le_refl _) (.inl ⟨.fork k L R, t, f1, xn1, ⟨cutc 40 s, b, c, hs40, g1, g2, g3⟩, by simp only [Tr.size]; omega, rfl, hR4⟩)
    · simp -implicitDefEqProofs (maxSteps := 1000000) (disch := omega) only [↓xsP, ↓vc_seq, xsQ, xsT, xsR, xsD, ↓reduceIte, reduceCtorEq, eq_self, ne_eq, imp_self, forall_const, Nat.reduceEqDiff, Nat.reduceAdd, Nat.reduceSub, Nat.reduceMul, Nat.reduceLT, Nat.reduceLeDiff, Nat.reduceBEq, Nat.reduceDiv, Nat.reduceMod, Int.reduceToNat, Int.reduceNeg, Int.reduceAdd, Int.reduceSub, Int.reduceMul, Int.reduceEq, Int.reduceNe, Int.reduceLT, Int.reduceLE, Int.reduceGT, Int.reduceGE]
      refine fin_ok (Mem.le_refl _) (.inr ⟨fun T t hT => ?_, _, s1, left1, rows1, xn1, rfl, hR4, hl1, by omega, h61⟩)
      cases T with
      | leaf ps st =>
        obtain ⟨a, u, e, _⟩ := hT
        rw [e] at h40
        exact absurd h40 (by simp)
      | fork k l r =>
        obtain ⟨a, b, c, e, q1, q2, q3⟩ := hT
        have e2 := e.symm.trans hs40
        injection e2 with _ e2
        rw [e2] at q1
        have := hno k l r t ⟨b, c, q1, q2, q3⟩
        simp only [Tr.size]
        omega
  rw [decide_eq_false h40, cutc_no h40]
  have hR3 := hR2.set s g
  generalize N2.set id (rdB s g (.ms id1 0 (rows.length + 1))) = N3 at hR3 ⊢
  simp -implicitDefEqProofs (maxSteps := 1000000) (disch := omega) only [↓xsP, ↓vc_seq, xsQ, xsT, xsR, xsD, ↓reduceIte, reduceCtorEq, eq_self, ne_eq, imp_self, forall_const, Nat.reduceEqDiff, Nat.reduceAdd, Nat.reduceSub, Nat.reduceMul, Nat.reduceLT, Nat.reduceLeDiff, Nat.reduceBEq, Nat.reduceDiv, Nat.reduceMod, Int.reduceToNat, Int.reduceNeg, Int.reduceAdd, Int.reduceSub, Int.reduceMul, Int.reduceEq, Int.reduceNe, Int.reduceLT, Int.reduceLE, Int.reduceGT, Int.reduceGE]
  refine callI_of ((sign_spec s g _ 91 id N3 hR3.own).mono ?_)
  rintro _ _ ⟨rfl, rfl⟩
  have hR4 := hR3.set (cutc 91 s) g
  have hcl := cutc_len 91 s
  generalize N3.set id (rdB (cutc 91 s) g (.ms id1 0 (rows.length + 1))) = N4 at hR4 ⊢
  by_cases h91 : s.head? = some 91
  rotate_left
  · rw [decide_eq_false h91]
    simp -implicitDefEqProofs (maxSteps := 1000000) (disch := omega) only [↓xsP, ↓vc_seq, xsQ, xsT, xsR, xsD, ↓reduceIte, reduceCtorEq, eq_self, ne_eq, imp_self, forall_const, Nat.reduceEqDiff, Nat.reduceAdd, Nat.reduceSub, Nat.reduceMul, Nat.reduceLT, Nat.reduceLeDiff, Nat.reduceBEq, Nat.reduceDiv, Nat.reduceMod, Int.reduceToNat, Int.reduceNeg, Int.reduceAdd, Int.reduceSub, Int.reduceMul, Int.reduceEq, Int.reduceNe, Int.reduceLT, Int.reduceLE, Int.reduceGT, Int.reduceGE]
    refine fin_ok (Mem.le_refl _) (.inr ⟨fun T t hT => ?_, _, _, _, _, _, rfl, hR4, by simp, by simp, h6a⟩)
    cases T with
    | leaf ps st =>
      obtain ⟨a, u, e, _⟩ := hT
      rw [e] at h91
      exact absurd rfl h91
    | fork k l r =>
      obtain ⟨a, b, c, e, _⟩ := hT
      rw [e] at h40
      exact absurd rfl h40
  rw [decide_eq_true h91]
  have hs91 := cutc_eq h91
  obtain ⟨s1, hs1⟩ : ∃ s1, cutc 91 s = s1 := ⟨_, rfl⟩
  rw [hs1] at hR4 hs91 hcl
  simp -implicitDefEqProofs (maxSteps := 1000000) (disch := omega) only [↓xsP, ↓vc_seq, xsQ, xsT, xsR, xsD, ↓reduceIte, reduceCtorEq, eq_self, ne_eq, imp_self, forall_const, Nat.reduceEqDiff, Nat.reduceAdd, Nat.reduceSub, Nat.reduceMul, Nat.reduceLT, Nat.reduceLeDiff, Nat.reduceBEq, Nat.reduceDiv, Nat.reduceMod, Int.reduceToNat, Int.reduceNeg, Int.reduceAdd, Int.reduceSub, Int.reduceMul, Int.reduceEq, Int.reduceNe, Int.reduceLT, Int.reduceLE, Int.reduceGT, Int.reduceGE]
  refine callI_of ((leaf_spec s1 (by omega) g _ id N4 hR4.own).mono ?_)
  rintro _ _ ⟨s2, hs2, rfl, h⟩
  have hR5 := hR4.set s2 g
  generalize N4.set id (rdB s2 g (.ms id1 0 (rows.length + 1))) = N5 at hR5 ⊢
  obtain ⟨ln, ok, rfl, hrest⟩ : ∃ (ln : Nd) (ok : Bool), _ = AV.tup [.agg ln.row, .l (.bool ok)] ∧ ((ok = true ∧ ∃ ps st, LeafAt s1 ps st s2 ∧ ln = leafN ps st) ∨ (ok = false ∧ ∀ ps st t, ¬ LeafAt s1 ps st t)) := by
    rcases h with ⟨ps, st, h1, h2⟩ | ⟨h1, n, h2⟩
    · exact ⟨_, true, h2, .inl ⟨rfl, ps, st, h1, rfl⟩⟩
    · exact ⟨n, false, h2, .inr ⟨rfl, h1⟩⟩
  simp -implicitDefEqProofs (maxSteps := 1000000) (disch := omega) only [↓xsP, ↓vc_seq, xsQ, xsT, xsR, xsD, ↓reduceIte, reduceCtorEq, eq_self, ne_eq, imp_self, forall_const, Nat.reduceEqDiff, Nat.reduceAdd, Nat.reduceSub, Nat.reduceMul, Nat.reduceLT, Nat.reduceLeDiff, Nat.reduceBEq, Nat.reduceDiv, Nat.reduceMod, Int.reduceToNat, Int.reduceNeg, Int.reduceAdd, Int.reduceSub, Int.reduceMul, Int.reduceEq, Int.reduceNe, Int.reduceLT, Int.reduceLE, Int.reduceGT, Int.reduceGE]
  refine newI_intro fun id5 hid5 => ?_
  have hR6 := hR5.new hid5 (.cells 46 [ln.row] 0)
  have h55 := Mem.set_eq N5 id5 (.cells 46 [ln.row] 0)
  have k5i := lt_of_bnd hid5 hR5.own
  obtain ⟨idn, hxe, hn, hBn, hni⟩ := hR6.ms (by simp)
  have hid1n : idn = id1 := by injection hxe with h1 _ _; exact h1.symm
  rw [hid1n] at hn
  clear hxe hBn hni hid1n
  have k51 : id1 ≠ id5 := fun e => by
    rcases hR5.nds with ⟨h1, _⟩ | ⟨q, h1, h2, _⟩
    · simp at h1
    · injection h1 with h1 _ _
      rw [← h1, e] at h2
      rw [hid5 id5 (Nat.le_refl _)] at h2
      cases h2
  have hown6 := hR6.own
  rw [rdB] at hown6
  rw [row_nd] at hR6 h55 hown6 hn
  simp -implicitDefEqProofs (maxSteps := 1000000) (disch := omega) only [↓xsP, ↓vc_seq, xsQ, xsT, xsR, xsD, ↓reduceIte, reduceCtorEq, eq_self, ne_eq, imp_self, forall_const, Nat.reduceEqDiff, Nat.reduceAdd, Nat.reduceSub, Nat.reduceMul, Nat.reduceLT, Nat.reduceLeDiff, Nat.reduceBEq, Nat.reduceDiv, Nat.reduceMod, Int.reduceToNat, Int.reduceNeg, Int.reduceAdd, Int.reduceSub, Int.reduceMul, Int.reduceEq, Int.reduceNe, Int.reduceLT, Int.reduceLE, Int.reduceGT, Int.reduceGE]
  generalize N5.set id5 (.cells 46 [[.bool ln.route, .int .i64 ln.key, .int .i64 ln.left, .int .i64 ln.right, .sl (ln.pairs.map Pr.row), .int .i64 ln.stat]] 0) = N6 at hR6 h55 hown6 hn ⊢
  have hB1' := hB1
  refine xwrite (fun n0 => [ (8, id1)]) [8] [] [[], [], [], [], [], [], [], [], []] (by kernel_rfl) (by kernel_rfl) (by kernel_rfl) (by kernel_rfl) (fun n0 hn0 => ⟨rfl, ?_, ?_⟩)
  · exact TOk_cons (.inl (lt_of_bnd hn0 hn)) (TOk_nil _ _)
  have y1 := lt_of_bnd hn0 hn
  have y5 := lt_of_bnd hn0 h55
  have yi := lt_of_bnd hn0 hR6.own
  have ki1' : id1 ≠ id := by omega
  have hget : (rows ++ [ph])[rows.length]? = some ph := get_mid rows [] ph
  have hset : ∀ y : List Lf, (rows ++ [ph]).set rows.length y = rows ++ [y] := fun y => set_mid rows [] ph y
  have hdr : ph.drop 6 = [] := List.drop_of_length_le (by omega)
  have hle6 : 6 ≤ ph.length := by omega
  simp -implicitDefEqProofs (maxSteps := 1000000) (disch := omega) only [↓xsP, ↓vc_seq, xsQ, xsT, xsR, xsD, ↓reduceIte, reduceCtorEq, eq_self, ne_eq, imp_self, forall_const, Nat.reduceEqDiff, Nat.reduceAdd, Nat.reduceSub, Nat.reduceMul, Nat.reduceLT, Nat.reduceLeDiff, Nat.reduceBEq, Nat.reduceDiv, Nat.reduceMod, Int.reduceToNat, Int.reduceNeg, Int.reduceAdd, Int.reduceSub, Int.reduceMul, Int.reduceEq, Int.reduceNe, Int.reduceLT, Int.reduceLE, Int.reduceGT, Int.reduceGE, hown6, h55, hn, hget, hset, hdr, hph6]
  have hR7 : ∀ y : List Lf, RSt B (N6.set id1 (.cells 46 (rows ++ [y]) 0)) id s2 g (rows ++ [y]) (.ms id1 0 (rows.length + 1)) := fun y => by
    refine ⟨by rw [Mem.set_ne _ _ _ _ ki1']; exact hR6.own, hR.bid, fun k bk hk => ?_, .inr ⟨id1, by simp, Mem.set_eq _ _ _, hB1⟩⟩
    rw [Mem.set_ne _ _ _ _ (fun e => by rw [← e, hB1] at hk; cases hk)]
    exact hR6.le _ _ hk
  refine fin_ok (Mem.le_refl _) ?_
  rcases hrest with ⟨rfl, ps, st, h1, h2⟩ | ⟨rfl, h1⟩
  · refine .inl ⟨.leaf ps st, s2, g, .ms id1 0 (rows.length + 1), ?_, by simp only [Tr.size]; omega, rfl, ?_⟩
    · obtain ⟨u, g1, g2⟩ := h1
      exact ⟨s1, u, hs91, g1, g2⟩
    · have := hR7 (leafN ps st).row
      rw [← h2] at this
      rw [preR, ← h2]
      exact this
  · refine .inr ⟨fun T t hT => ?_, _, s2, _, _, _, rfl, hR7 _, by simp, by simp, fun r hr => ?_⟩
    · cases T with
      | leaf ps st =>
        obtain ⟨a, u, e, g1, g2⟩ := hT
        have e2 := e.symm.trans hs91
        injection e2 with _ e2
        rw [e2] at g1
        exact absurd ⟨u, g1, g2⟩ (h1 ps st t)
      | fork k l r =>
        obtain ⟨a, b, c, e, _⟩ := hT
        rw [e] at h40
        exact absurd rfl h40
    · rcases List.mem_append.1 hr with hr | hr
      · exact h6 r hr
      · rw [List.mem_singleton.1 hr]; rfl
end Go.X
set_option linter.unusedVariables false
set_option linter.unusedSimpArgs false
set_option maxHeartbeats 20000000
set_option maxRecDepth 100000
namespace Go.X
open Go.Proofs.Tryd (prog)

theorem tree_rd {f : FuncId} {M : Mem} {K : AV → Mem → Prop} {root : Int} {ns : List Nd} {id keep : Nat} (hM : M id = some (.cells 46 (ns.map Nd.row) keep)) (hk : ns.length ≤ keep) (hx : XCalls Go.Proofs.Tryd.prog f [trA root ns] M K) : XCalls Go.Proofs.Tryd.prog f [.agg [.int .i64 root, .ms id 0 ns.length]] M K := by
  refine XCalls.frz0 id hM (by rw [List.length_map]; exact hk) ?_
  have e : [AV.agg [Lf.int IntKind.i64 root, Lf.ms id 0 ns.length]].map (frzA id (ns.map Nd.row)) = [trA root ns] := by
    simp only [List.map_cons, List.map_nil, frzA, frz1, frzL, trA, Nat.zero_add, List.length_map, Nat.le_refl, and_self, if_true, List.drop_zero]
    rw [List.take_of_length_le (by rw [List.length_map]; exact Nat.le_refl _)]
  rw [e]
  exact hx
/-- What is parsed: a tree whose text it is. -/
def ParsOk (s : List UInt8) (T : Tr) : Prop := s.length ≤ 100000 ∧ TreeAt s T [] ∧ T.size ≤ 2000 ∧ Wf T ks0
theorem parsOk_uniq {s : List UInt8} {T U : Tr} (h : ParsOk s T) (h' : ParsOk s U) : T = U := (treeAt_uniq h.2.1 h'.2.1).1
theorem hang_ints {T : Tr} : ∀ {s t : List UInt8}, TreeAt s T t → T.ints := by
  induction T with
  | leaf ps st =>
    rintro s t ⟨a, u, h1, h2, h3⟩
    refine ⟨h3.1, ?_⟩
    have key : ∀ (ps : List Pr) (b : Bool) (a t : List UInt8), PrsAt b a ps t → AllOk ps := by
      intro ps
      induction ps with
      | nil => intro b a t h p hp; cases hp
      | cons p r ih =>
        intro b a t h q hq
        have h' : ∃ w u, PairAt w p u ∧ PrsAt false u r t := by
          cases b with
          | true => obtain ⟨u, g1, g2⟩ := h; exact ⟨_, u, g1, g2⟩
          | false => obtain ⟨w, u, _, g1, g2⟩ := h; exact ⟨w, u, g1, g2⟩
        obtain ⟨w, u, ⟨x, g1, g2⟩, g3⟩ := h'
        rcases List.mem_cons.1 hq with rfl | hq
        · exact ⟨g1.1, g2.1⟩
        · exact ih _ _ _ g3 q hq
    exact key _ _ _ _ h2
  | fork k l r h1 h2 =>
    rintro s t ⟨a, b, c, e, g1, g2, g3⟩
    exact ⟨g2.1, h1 g1, h2 g3⟩
theorem prsAt_pok : ∀ (ps : List Pr) (b : Bool) (a t : List UInt8), PrsAt b a ps t → ps.length ≤ a.length := by
  intro ps
  induction ps with
  | nil => intro b a t h; exact Nat.zero_le _
  | cons p r ih =>
    intro b a t h
    cases b with
    | true =>
      obtain ⟨u, g1, g2⟩ := h
      have := pairAt_len g1
      have := ih _ _ _ g2
      rw [List.length_cons]
      omega
    | false =>
      obtain ⟨w, u, g0, g1, g2⟩ := h
      have := pairAt_len g1
      have := ih _ _ _ g2
      rw [g0, List.length_cons, List.length_cons]
      omega
theorem treeAt_pok {T : Tr} : ∀ {s t : List UInt8}, TreeAt s T t → ∀ h, ∀ x ∈ preN h T, x.pairs.length ≤ s.length := by
  induction T with
  | leaf ps st =>
    rintro s t ⟨a, u, h1, h2, h3⟩ h x hx
    rw [preN] at hx
    rw [List.mem_singleton.1 hx, h1, List.length_cons]
    have := prsAt_pok _ _ _ _ h2
    show ps.length ≤ _
    omega
  | fork k l r ihl ihr =>
    rintro s t ⟨a, b, c, e, g1, g2, g3⟩ h x hx
    have t1 := treeAt_len g1
    have t2 := numAt_len g2
    rw [preN] at hx
    rw [e, List.length_cons]
    simp only [List.length_cons] at t1 t2
    rcases List.mem_cons.1 hx with rfl | hx
    · exact Nat.zero_le _
    · rcases List.mem_append.1 hx with hx | hx
      · have := ihl g1 _ x hx
        omega
      · have := ihr g3 _ x hx
        omega
theorem parse_spec (s : List UInt8) (hs : s.length ≤ 1000000) (M : Mem) :
    XCalls Go.Proofs.Tryd.prog 10 [.l (txt s)] M fun r M' => M' = M ∧ ((∃ T, ParsOk s T ∧ r = .tup [trA 0 (preN 0 T), .l (.int .i64 0)]) ∨ ((∀ T, ¬ ParsOk s T) ∧ r = .tup [trA 0 [], .l (.int .i64 1)])) := by
  refine xcalls_intro (rs := [.cell 2 24, .tmp 3]) Go.Proofs.Tryd.func10 rfl (by kernel_rfl) rfl rfl (by kernel_rfl) (by simp) ?_
  simp -implicitDefEqProofs (maxSteps := 1000000) (disch := omega) only [↓xsP, ↓vc_seq, xsQ, xsT, xsR, xsD, ↓reduceIte, reduceCtorEq, eq_self, ne_eq, imp_self, forall_const, Nat.reduceEqDiff, Nat.reduceAdd, Nat.reduceSub, Nat.reduceMul, Nat.reduceLT, Nat.reduceLeDiff, Nat.reduceBEq, Nat.reduceDiv, Nat.reduceMod, Int.reduceToNat, Int.reduceNeg, Int.reduceAdd, Int.reduceSub, Int.reduceMul, Int.reduceEq, Int.reduceNe, Int.reduceLT, Int.reduceLE, Int.reduceGT, Int.reduceGE, txt]
  refine newI_intro fun id2 hid2 => ?_
  have hle2 : ∀ X : Blk, M.le (M.set id2 X) := fun X => le_new (Mem.le_refl _) hid2
  simp -implicitDefEqProofs (maxSteps := 1000000) (disch := omega) only [↓xsP, ↓vc_seq, xsQ, xsT, xsR, xsD, ↓reduceIte, reduceCtorEq, eq_self, ne_eq, imp_self, forall_const, Nat.reduceEqDiff, Nat.reduceAdd, Nat.reduceSub, Nat.reduceMul, Nat.reduceLT, Nat.reduceLeDiff, Nat.reduceBEq, Nat.reduceDiv, Nat.reduceMod, Int.reduceToNat, Int.reduceNeg, Int.reduceAdd, Int.reduceSub, Int.reduceMul, Int.reduceEq, Int.reduceNe, Int.reduceLT, Int.reduceLE, Int.reduceGT, Int.reduceGE, txt, ba_size]
  by_cases h1 : s.length ≤ 100000
  rotate_left
  · have q1 : decide ((s.length : Int) > 100000) = true := decide_eq_true (by omega)
    simp -implicitDefEqProofs (maxSteps := 1000000) (disch := omega) only [↓xsP, ↓vc_seq, xsQ, xsT, xsR, xsD, ↓reduceIte, reduceCtorEq, eq_self, ne_eq, imp_self, forall_const, Nat.reduceEqDiff, Nat.reduceAdd, Nat.reduceSub, Nat.reduceMul, Nat.reduceLT, Nat.reduceLeDiff, Nat.reduceBEq, Nat.reduceDiv, Nat.reduceMod, Int.reduceToNat, Int.reduceNeg, Int.reduceAdd, Int.reduceSub, Int.reduceMul, Int.reduceEq, Int.reduceNe, Int.reduceLT, Int.reduceLE, Int.reduceGT, Int.reduceGE, q1, txt, ba_size]
    refine finI_of (XFin.wk (XFin.le (M' := M) (fun k bk hk => ?_) ⟨rfl, .inr ⟨fun T h => h1 h.1, rfl⟩⟩))
    have := lt_of_bnd hid2 hk
    simp (disch := omega) only [Mem.set_ne, hk]
  have q1 : decide ((s.length : Int) > 100000) = false := decide_eq_false (by omega)
  simp -implicitDefEqProofs (maxSteps := 1000000) (disch := omega) only [↓xsP, ↓vc_seq, xsQ, xsT, xsR, xsD, ↓reduceIte, reduceCtorEq, eq_self, ne_eq, imp_self, forall_const, Nat.reduceEqDiff, Nat.reduceAdd, Nat.reduceSub, Nat.reduceMul, Nat.reduceLT, Nat.reduceLeDiff, Nat.reduceBEq, Nat.reduceDiv, Nat.reduceMod, Int.reduceToNat, Int.reduceNeg, Int.reduceAdd, Int.reduceSub, Int.reduceMul, Int.reduceEq, Int.reduceNe, Int.reduceLT, Int.reduceLE, Int.reduceGT, Int.reduceGE, q1, txt, ba_size]
  refine newI_intro fun id4 hid4 => ?_
  obtain ⟨k24, hid4'⟩ := bnd_new hid4
  simp -implicitDefEqProofs (maxSteps := 1000000) (disch := omega) only [↓xsP, ↓vc_seq, xsQ, xsT, xsR, xsD, ↓reduceIte, reduceCtorEq, eq_self, ne_eq, imp_self, forall_const, Nat.reduceEqDiff, Nat.reduceAdd, Nat.reduceSub, Nat.reduceMul, Nat.reduceLT, Nat.reduceLeDiff, Nat.reduceBEq, Nat.reduceDiv, Nat.reduceMod, Int.reduceToNat, Int.reduceNeg, Int.reduceAdd, Int.reduceSub, Int.reduceMul, Int.reduceEq, Int.reduceNe, Int.reduceLT, Int.reduceLE, Int.reduceGT, Int.reduceGE, q1, txt, ba_size]
  have hR : RSt (M.set id2 (.cells 24 [[.int .i64 0, .nils]] 0)) ((M.set id2 (.cells 24 [[.int .i64 0, .nils]] 0)).set id4 (rdB s 2000 .nils)) id4 s ((2000 : Nat) : Int) [] .nils :=
    ⟨Mem.set_eq _ _ _, hid4 _ (Nat.le_refl _), le_new (Mem.le_refl _) hid4, .inl ⟨rfl, rfl⟩⟩
  refine callI_of ((node_spec _ id4 2000 s [] .nils _ hs (by simp) (fun r hr => by cases hr) hR).mono ?_)
  rintro r' N h
  rcases h with ⟨T, t, f', xn, hT, hsz, rfl, hR1⟩ | ⟨hno, n, s1, left1, rows1, xn1, rfl, hR1, -, -, -⟩
  rotate_left
  · have hNid2 := hR1.le _ _ (Mem.set_eq M id2 (.cells 24 [[.int .i64 0, .nils]] 0))
    simp -implicitDefEqProofs (maxSteps := 1000000) (disch := omega) only [↓xsP, ↓vc_seq, xsQ, xsT, xsR, xsD, ↓reduceIte, reduceCtorEq, eq_self, ne_eq, imp_self, forall_const, Nat.reduceEqDiff, Nat.reduceAdd, Nat.reduceSub, Nat.reduceMul, Nat.reduceLT, Nat.reduceLeDiff, Nat.reduceBEq, Nat.reduceDiv, Nat.reduceMod, Int.reduceToNat, Int.reduceNeg, Int.reduceAdd, Int.reduceSub, Int.reduceMul, Int.reduceEq, Int.reduceNe, Int.reduceLT, Int.reduceLE, Int.reduceGT, Int.reduceGE, hNid2]
    refine finI_of (XFin.wk (XFin.le (M' := M) (fun k bk hk => ?_) ⟨rfl, .inr ⟨fun T h => ?_, rfl⟩⟩))
    · have := lt_of_bnd hid2 hk
      rw [Mem.set_ne _ _ _ _ (by omega)]
      exact hR1.le _ _ (hle2 _ _ _ hk)
    · have := hno T [] h.2.1
      have := h.2.2.1
      omega
  have hown := hR1.own
  rw [rdB, txt] at hown
  have hNid2 := hR1.le _ _ (Mem.set_eq M id2 (.cells 24 [[.int .i64 0, .nils]] 0))
  simp -implicitDefEqProofs (maxSteps := 1000000) (disch := omega) only [↓xsP, ↓vc_seq, xsQ, xsT, xsR, xsD, ↓reduceIte, reduceCtorEq, eq_self, ne_eq, imp_self, forall_const, Nat.reduceEqDiff, Nat.reduceAdd, Nat.reduceSub, Nat.reduceMul, Nat.reduceLT, Nat.reduceLeDiff, Nat.reduceBEq, Nat.reduceDiv, Nat.reduceMod, Int.reduceToNat, Int.reduceNeg, Int.reduceAdd, Int.reduceSub, Int.reduceMul, Int.reduceEq, Int.reduceNe, Int.reduceLT, Int.reduceLE, Int.reduceGT, Int.reduceGE, hown, txt]
  have hemp : decide ((⟨t.toArray⟩ : ByteArray) = { data := #[] }) = decide (t = []) := by
    rw [decide_eq_decide]
    exact ba_eq t []
  by_cases ht : t = []
  rotate_left
  · have q2 : decide ((⟨t.toArray⟩ : ByteArray) = { data := #[] }) = false := by rw [hemp, decide_eq_false ht]
    simp -implicitDefEqProofs (maxSteps := 1000000) (disch := omega) only [↓xsP, ↓vc_seq, xsQ, xsT, xsR, xsD, ↓reduceIte, reduceCtorEq, eq_self, ne_eq, imp_self, forall_const, Nat.reduceEqDiff, Nat.reduceAdd, Nat.reduceSub, Nat.reduceMul, Nat.reduceLT, Nat.reduceLeDiff, Nat.reduceBEq, Nat.reduceDiv, Nat.reduceMod, Int.reduceToNat, Int.reduceNeg, Int.reduceAdd, Int.reduceSub, Int.reduceMul, Int.reduceEq, Int.reduceNe, Int.reduceLT, Int.reduceLE, Int.reduceGT, Int.reduceGE, hown, q2, hNid2]
    refine finI_of (XFin.wk (XFin.le (M' := M) (fun k bk hk => ?_) ⟨rfl, .inr ⟨fun U h => ?_, rfl⟩⟩))
    · have := lt_of_bnd hid2 hk
      rw [Mem.set_ne _ _ _ _ (by omega)]
      exact hR1.le _ _ (hle2 _ _ _ hk)
    · exact ht (treeAt_uniq h.2.1 hT).2.symm
  have q2 : decide ((⟨t.toArray⟩ : ByteArray) = { data := #[] }) = true := by rw [hemp, decide_eq_true ht]
  subst ht
  simp -implicitDefEqProofs (maxSteps := 1000000) (disch := omega) only [↓xsP, ↓vc_seq, xsQ, xsT, xsR, xsD, ↓reduceIte, reduceCtorEq, eq_self, ne_eq, imp_self, forall_const, Nat.reduceEqDiff, Nat.reduceAdd, Nat.reduceSub, Nat.reduceMul, Nat.reduceLT, Nat.reduceLeDiff, Nat.reduceBEq, Nat.reduceDiv, Nat.reduceMod, Int.reduceToNat, Int.reduceNeg, Int.reduceAdd, Int.reduceSub, Int.reduceMul, Int.reduceEq, Int.reduceNe, Int.reduceLT, Int.reduceLE, Int.reduceGT, Int.reduceGE, hown, q2]
  rw [List.nil_append, List.length_nil] at hR1
  obtain ⟨idn, rfl, hn, hBn, hni⟩ := hR1.ms (fun e => by
    have := congrArg List.length e
    rw [preR_len] at this
    have := T.size_pos
    simp at *
    omega)
  have hpl : (preR 0 T).length = (preN 0 T).length := by rw [preR_len, preN_len]
  have hbd := treeAt_pok hT 0
  rw [hpl]
  refine callI_gs (GStep.keep' hn (preR_wk T 0)) (callI_of (XCalls.mono (tree_rd (Mem.set_eq _ _ _) (by rw [List.length_map]; exact Nat.le_refl _) (tplain_spec 0 (preN 0 T) (by rw [preN_len]; omega) (fun x hx => by have := hbd x hx; omega) _)) ?_))
  have hfin : ∀ X : Blk, M.le (N.set idn X) := fun X k bk hk => by
    have h2 := hle2 (.cells 24 [[.int .i64 0, .nils]] 0) _ _ hk
    rw [Mem.set_ne _ _ _ _ (fun e => by rw [← e, hBn] at h2; cases h2)]
    exact hR1.le _ _ h2
  have hM2 := hid2 id2 (Nat.le_refl _)
  have hn2 : idn ≠ id2 := fun e => by
    rw [e, Mem.set_eq] at hBn
    cases hBn
  have hQ2 : ∀ X : Blk, (N.set idn X) id2 = some (.cells 24 [[.int .i64 0, .nils]] 0) := fun X => by rw [Mem.set_ne _ _ _ _ hn2]; exact hNid2
  rintro _ _ ⟨rfl, ⟨hm, rfl⟩ | ⟨U, hU, rfl⟩⟩
  · simp -implicitDefEqProofs (maxSteps := 1000000) (disch := omega) only [↓xsP, ↓vc_seq, xsQ, xsT, xsR, xsD, ↓reduceIte, reduceCtorEq, eq_self, ne_eq, imp_self, forall_const, Nat.reduceEqDiff, Nat.reduceAdd, Nat.reduceSub, Nat.reduceMul, Nat.reduceLT, Nat.reduceLeDiff, Nat.reduceBEq, Nat.reduceDiv, Nat.reduceMod, Int.reduceToNat, Int.reduceNeg, Int.reduceAdd, Int.reduceSub, Int.reduceMul, Int.reduceEq, Int.reduceNe, Int.reduceLT, Int.reduceLE, Int.reduceGT, Int.reduceGE, trA]
    refine newI_intro fun id7 hid7 => ?_
    have k7 := lt_of_bnd hid7 (hQ2 _)
    simp -implicitDefEqProofs (maxSteps := 1000000) (disch := omega) only [↓xsP, ↓vc_seq, xsQ, xsT, xsR, xsD, ↓reduceIte, reduceCtorEq, eq_self, ne_eq, imp_self, forall_const, Nat.reduceEqDiff, Nat.reduceAdd, Nat.reduceSub, Nat.reduceMul, Nat.reduceLT, Nat.reduceLeDiff, Nat.reduceBEq, Nat.reduceDiv, Nat.reduceMod, Int.reduceToNat, Int.reduceNeg, Int.reduceAdd, Int.reduceSub, Int.reduceMul, Int.reduceEq, Int.reduceNe, Int.reduceLT, Int.reduceLE, Int.reduceGT, Int.reduceGE, trA, hNid2]
    refine finI_of (XFin.wk (XFin.le (M' := M) (fun k bk hk => ?_) ⟨rfl, .inr ⟨fun U h => ?_, rfl⟩⟩))
    · have h2 := hfin (.cells 46 ((preN 0 T).map Nd.row) (preN 0 T).length) _ _ hk
      have h3 := lt_of_bnd hid7 h2
      have h4 := lt_of_bnd hid2 hk
      rw [Mem.set_ne _ _ _ _ (by omega), Mem.set_ne _ _ _ _ (by omega)]
      exact h2
    · obtain rfl := (treeAt_uniq h.2.1 hT).1
      rw [(good_pre h.2.2.2 h.2.2.1).may] at hm
      cases hm
  · simp -implicitDefEqProofs (maxSteps := 1000000) (disch := omega) only [↓xsP, ↓vc_seq, xsQ, xsT, xsR, xsD, ↓reduceIte, reduceCtorEq, eq_self, ne_eq, imp_self, forall_const, Nat.reduceEqDiff, Nat.reduceAdd, Nat.reduceSub, Nat.reduceMul, Nat.reduceLT, Nat.reduceLeDiff, Nat.reduceBEq, Nat.reduceDiv, Nat.reduceMod, Int.reduceToNat, Int.reduceNeg, Int.reduceAdd, Int.reduceSub, Int.reduceMul, Int.reduceEq, Int.reduceNe, Int.reduceLT, Int.reduceLE, Int.reduceGT, Int.reduceGE, trA]
    refine newI_intro fun id7 hid7 => ?_
    have k7 := lt_of_bnd hid7 (hQ2 _)
    simp -implicitDefEqProofs (maxSteps := 1000000) (disch := omega) only [↓xsP, ↓vc_seq, xsQ, xsT, xsR, xsD, ↓reduceIte, reduceCtorEq, eq_self, ne_eq, imp_self, forall_const, Nat.reduceEqDiff, Nat.reduceAdd, Nat.reduceSub, Nat.reduceMul, Nat.reduceLT, Nat.reduceLeDiff, Nat.reduceBEq, Nat.reduceDiv, Nat.reduceMod, Int.reduceToNat, Int.reduceNeg, Int.reduceAdd, Int.reduceSub, Int.reduceMul, Int.reduceEq, Int.reduceNe, Int.reduceLT, Int.reduceLE, Int.reduceGT, Int.reduceGE, trA, hNid2]
    have hUT : U = T := by
      obtain ⟨pl, g1, -⟩ := hU.hang
      have := preN_hang (preN 0 T) T 0 (fun j hj => by rw [Nat.zero_add]) (by rw [preN_len]; omega)
      exact (g1.uniq this).1
    subst hUT
    refine fin_ok (M' := M) (fun k bk hk => ?_) ⟨rfl, .inl ⟨U, ⟨h1, hT, by omega, hU.wf⟩, rfl⟩⟩
    have h2 := hfin (.cells 46 ((preN 0 U).map Nd.row) (preN 0 U).length) _ _ hk
    have h3 := lt_of_bnd hid7 h2
    have h4 := lt_of_bnd hid2 hk
    rw [Mem.set_ne _ _ _ _ (by omega), Mem.set_ne _ _ _ _ (by omega)]
    exact h2
end Go.X
set_option linter.unusedVariables false
set_option linter.unusedSimpArgs false
set_option maxHeartbeats 20000000
set_option maxRecDepth 100000
namespace Go.X
open Go.Proofs.Tryd (prog)

theorem numAt_mk {v : Int} (hv : IntOk' v) {c : UInt8} (hc : dg c = false) (t : List UInt8) : NumAt (Lib.itoa v ++ c :: t) v (c :: t) := ⟨hv, rfl, fun d hd => by
  simp only [List.head?_cons, Option.some.injEq] at hd
  rw [← hd]; exact hc⟩
theorem pairAt_mk {p : Pr} (hp : IntOk' p.key ∧ IntOk' p.val) {c : UInt8} (hc : dg c = false) (t : List UInt8) : PairAt (prT p ++ c :: t) p (c :: t) := by
  refine ⟨Lib.itoa p.val ++ c :: t, ?_, numAt_mk hp.2 hc t⟩
  have := numAt_mk hp.1 (c := 58) (by decide) (Lib.itoa p.val ++ c :: t)
  rw [prT, List.append_assoc, List.cons_append]
  exact this
theorem prsAt_mk {t : List UInt8} : ∀ (ps : List Pr), AllOk ps → PrsAt false ((ps.flatMap fun q => 44 :: prT q) ++ 124 :: t) ps (124 :: t)
  | [], _ => rfl
  | p :: r, h => by
    have ih := prsAt_mk (t := t) r fun x hx => h x (by simp [hx])
    refine ⟨prT p ++ ((r.flatMap fun q => 44 :: prT q) ++ 124 :: t), _, by simp, ?_, ih⟩
    cases r with
    | nil => exact pairAt_mk (h p (by simp)) (by decide) _
    | cons q r => exact pairAt_mk (c := 44) (h p (by simp)) (by decide) _
theorem prsAt_mk1 {t : List UInt8} (ps : List Pr) (h : AllOk ps) : PrsAt true (prsT ps ++ 124 :: t) ps (124 :: t) := by
  cases ps with
  | nil => exact rfl
  | cons p r =>
    have ih := prsAt_mk (t := t) r fun x hx => h x (by simp [hx])
    refine ⟨_, ?_, ih⟩
    rw [prsT, List.append_assoc]
    cases r with
    | nil => exact pairAt_mk (h p (by simp)) (by decide) _
    | cons q r => exact pairAt_mk (c := 44) (h p (by simp)) (by decide) _
theorem treeAt_mk : ∀ {T : Tr}, T.ints → ∀ t : List UInt8, TreeAt (T.txt ++ t) T t
  | .leaf ps st, h, t => by
    refine ⟨prsT ps ++ 124 :: (Lib.itoa st ++ 93 :: t), Lib.itoa st ++ 93 :: t, by simp [Tr.txt], prsAt_mk1 ps h.2, numAt_mk h.1 (by decide) t⟩
  | .fork k l r, h, t => by
    refine ⟨l.txt ++ 32 :: (Lib.itoa k ++ 32 :: (r.txt ++ 41 :: t)), Lib.itoa k ++ 32 :: (r.txt ++ 41 :: t), r.txt ++ 41 :: t, by simp [Tr.txt], treeAt_mk h.2.1 _, numAt_mk h.1 (by decide) _, treeAt_mk h.2.2 _⟩
theorem pairAt_txt {s : List UInt8} {p : Pr} {t : List UInt8} (h : PairAt s p t) : s = prT p ++ t := by
  obtain ⟨u, ⟨_, h1, _⟩, ⟨_, h2, _⟩⟩ := h
  rw [h1, h2, prT]
  simp
theorem prsAt_txt : ∀ (ps : List Pr) {s t : List UInt8}, (PrsAt false s ps t → s = (ps.flatMap fun q => 44 :: prT q) ++ t) ∧ (PrsAt true s ps t → s = prsT ps ++ t)
  | [], s, t => ⟨fun h => h, fun h => h⟩
  | p :: r, s, t => by
    refine ⟨fun h => ?_, fun h => ?_⟩
    · obtain ⟨w, u, g0, g1, g2⟩ := h
      rw [g0, pairAt_txt g1, (prsAt_txt r).1 g2]
      simp
    · obtain ⟨u, g1, g2⟩ := h
      rw [pairAt_txt g1, (prsAt_txt r).1 g2, prsT]
      simp
theorem treeAt_txt : ∀ {T : Tr} {s t : List UInt8}, TreeAt s T t → s = T.txt ++ t
  | .leaf ps st, s, t, ⟨a, u, h1, h2, h3⟩ => by
    rw [h1, (prsAt_txt ps).2 h2, h3.2.1]
    simp [Tr.txt]
  | .fork k l r, s, t, ⟨a, b, c, h1, h2, h3, h4⟩ => by
    rw [h1, treeAt_txt h2, h3.2.1, treeAt_txt h4]
    simp [Tr.txt]
theorem itoa_dig {n : Nat} (h : n < 10) : Lib.itoa (n : Int) = [UInt8.ofNat (48 + n)] := by
  rw [itoa_nonneg (by omega), Int.toNat_natCast, Lib.decDigits, dif_pos h]
theorem itoa_negdig {n : Nat} (h : n < 10) (h0 : 0 < n) : Lib.itoa (-(n : Int)) = [45, UInt8.ofNat (48 + n)] := by
  rw [itoa_neg (by omega), show (-(n : Int)).natAbs = n by omega, Lib.decDigits, dif_pos h]
def s23 : List UInt8 := [40, 91, 49, 58, 53, 124, 48, 93, 32, 51, 32, 91, 51, 58, 45, 50, 44, 52, 58, 48, 124, 55, 93, 41]
def t23 : Tr := .fork 3 (.leaf [⟨1, 5⟩] 0) (.leaf [⟨3, -2⟩, ⟨4, 0⟩] 7)
theorem ints23 : t23.ints := by
  refine ⟨⟨by decide, by decide⟩, ⟨⟨by decide, by decide⟩, fun p hp => ?_⟩, ⟨⟨by decide, by decide⟩, fun p hp => ?_⟩⟩
  · simp only [List.mem_cons, List.not_mem_nil, or_false] at hp
    subst hp
    exact ⟨⟨by decide, by decide⟩, by decide, by decide⟩
  · simp only [List.mem_cons, List.not_mem_nil, or_false] at hp
    rcases hp with rfl | rfl
    · exact ⟨⟨by decide, by decide⟩, by decide, by decide⟩
    · exact ⟨⟨by decide, by decide⟩, by decide, by decide⟩
theorem txt23 : t23.txt = s23 := by
  have e0 := itoa_dig (n := 0) (by decide)
  have e1 := itoa_dig (n := 1) (by decide)
  have e3 := itoa_dig (n := 3) (by decide)
  have e4 := itoa_dig (n := 4) (by decide)
  have e5 := itoa_dig (n := 5) (by decide)
  have e7 := itoa_dig (n := 7) (by decide)
  have e2 := itoa_negdig (n := 2) (by decide) (by decide)
  simp only [Int.cast_ofNat_Int] at e0 e1 e2 e3 e4 e5 e7
  simp only [t23, Tr.txt, prsT, prT, e0, e1, e2, e3, e4, e5, e7, List.flatMap_cons, List.flatMap_nil]
  rfl
theorem pars23 : ParsOk s23 t23 := by
  refine ⟨by decide, ?_, by decide, ?_⟩
  · have := treeAt_mk ints23 []
    rw [List.append_nil, txt23] at this
    exact this
  · refine ⟨by decide, by decide, ⟨?_, by decide, by decide, ?_⟩, ⟨?_, by decide, by decide, ?_⟩⟩
    · exact (rises_asc _).2 (by simp [Asc])
    · intro p hp
      simp only [List.mem_cons, List.not_mem_nil, or_false] at hp
      subst hp
      decide
    · exact (rises_asc _).2 (by simp [Asc])
    · intro p hp
      simp only [List.mem_cons, List.not_mem_nil, or_false] at hp
      rcases hp with rfl | rfl <;> decide
theorem pok_pars {s : List UInt8} {T : Tr} (h : ParsOk s T) : Pok (preN 0 T) := fun x hx => by
  have h1 := treeAt_pok h.2.1 0 x hx
  have := h.1
  omega
theorem good_pars {s : List UInt8} {T : Tr} (h : ParsOk s T) : Good 0 (preN 0 T) T := good_pre h.2.2.2 h.2.2.1
theorem awake23_spec (M : Mem) : XCalls Go.Proofs.Tryd.prog 9 [] M fun r M' => r = .l (.bool true) ∧ M' = M := by
  refine xcalls_intro (rs := [.tmp 0]) Go.Proofs.Tryd.func9 rfl (by kernel_rfl) rfl rfl (by kernel_rfl) (by simp) ?_
  simp -implicitDefEqProofs (maxSteps := 1000000) (disch := omega) only [↓xsP, ↓vc_seq, xsQ, xsT, xsR, xsD, ↓reduceIte, reduceCtorEq, eq_self, ne_eq, imp_self, forall_const, Nat.reduceEqDiff, Nat.reduceAdd, Nat.reduceSub, Nat.reduceMul, Nat.reduceLT, Nat.reduceLeDiff, Nat.reduceBEq, Nat.reduceDiv, Nat.reduceMod, Int.reduceToNat, Int.reduceNeg, Int.reduceAdd, Int.reduceSub, Int.reduceMul, Int.reduceEq, Int.reduceNe, Int.reduceLT, Int.reduceLE, Int.reduceGT, Int.reduceGE]
  refine callI_of ((parse_spec s23 (by decide) _).mono ?_)
  rintro _ M ⟨rfl, ⟨T, hT, rfl⟩ | ⟨hno, -⟩⟩
  rotate_left
  · exact absurd pars23 (hno _)
  obtain rfl := parsOk_uniq hT pars23
  have hG := good_pars pars23
  have hP := pok_pars pars23
  have hlen : (preN 0 t23).length ≤ 140737488355328 := by rw [preN_len]; decide
  have htx : t23.txt.length ≤ 1000000 := by rw [txt23]; decide
  simp -implicitDefEqProofs (maxSteps := 1000000) (disch := omega) only [↓xsP, ↓vc_seq, xsQ, xsT, xsR, xsD, ↓reduceIte, reduceCtorEq, eq_self, ne_eq, imp_self, forall_const, Nat.reduceEqDiff, Nat.reduceAdd, Nat.reduceSub, Nat.reduceMul, Nat.reduceLT, Nat.reduceLeDiff, Nat.reduceBEq, Nat.reduceDiv, Nat.reduceMod, Int.reduceToNat, Int.reduceNeg, Int.reduceAdd, Int.reduceSub, Int.reduceMul, Int.reduceEq, Int.reduceNe, Int.reduceLT, Int.reduceLE, Int.reduceGT, Int.reduceGE, trA]
  refine newI_intro fun id1 hid1 => ?_
  simp -implicitDefEqProofs (maxSteps := 1000000) (disch := omega) only [↓xsP, ↓vc_seq, xsQ, xsT, xsR, xsD, ↓reduceIte, reduceCtorEq, eq_self, ne_eq, imp_self, forall_const, Nat.reduceEqDiff, Nat.reduceAdd, Nat.reduceSub, Nat.reduceMul, Nat.reduceLT, Nat.reduceLeDiff, Nat.reduceBEq, Nat.reduceDiv, Nat.reduceMod, Int.reduceToNat, Int.reduceNeg, Int.reduceAdd, Int.reduceSub, Int.reduceMul, Int.reduceEq, Int.reduceNe, Int.reduceLT, Int.reduceLE, Int.reduceGT, Int.reduceGE, trA]
  refine callI_of ((vkeys_spec 0 (preN 0 t23) hlen hP hG _).mono ?_)
  rintro _ _ ⟨rfl, rfl⟩
  simp -implicitDefEqProofs (maxSteps := 1000000) (disch := omega) only [↓xsP, ↓vc_seq, xsQ, xsT, xsR, xsD, ↓reduceIte, reduceCtorEq, eq_self, ne_eq, imp_self, forall_const, Nat.reduceEqDiff, Nat.reduceAdd, Nat.reduceSub, Nat.reduceMul, Nat.reduceLT, Nat.reduceLeDiff, Nat.reduceBEq, Nat.reduceDiv, Nat.reduceMod, Int.reduceToNat, Int.reduceNeg, Int.reduceAdd, Int.reduceSub, Int.reduceMul, Int.reduceEq, Int.reduceNe, Int.reduceLT, Int.reduceLE, Int.reduceGT, Int.reduceGE, trA]
  have w1 : decide (((preN 0 t23).length : Int) = 3) = true := by rw [preN_len]; decide
  have hk : t23.keys = [3] := rfl
  simp -implicitDefEqProofs (maxSteps := 1000000) (disch := omega) only [↓xsP, ↓vc_seq, xsQ, xsT, xsR, xsD, ↓reduceIte, reduceCtorEq, eq_self, ne_eq, imp_self, forall_const, Nat.reduceEqDiff, Nat.reduceAdd, Nat.reduceSub, Nat.reduceMul, Nat.reduceLT, Nat.reduceLeDiff, Nat.reduceBEq, Nat.reduceDiv, Nat.reduceMod, Int.reduceToNat, Int.reduceNeg, Int.reduceAdd, Int.reduceSub, Int.reduceMul, Int.reduceEq, Int.reduceNe, Int.reduceLT, Int.reduceLE, Int.reduceGT, Int.reduceGE, trA, w1]
  refine call_of (vdeep_spec 0 (preN 0 t23) hlen hP hG _) ?_
  have hd : (t23.deep : Int) = 1 := rfl
  rw [hd]
  have hix : ∀ X : Mem, indexAddrA Go.Proofs.Tryd.prog X 30 (.l (.sl [[.int .i64 3]])) (.l (.int .i64 0)) = some (.l (.rp [.int .i64 3])) := fun X => by
    unfold indexAddrA
    rw [ti_30]
    simp only [ti_3]
    rfl
  simp -implicitDefEqProofs (maxSteps := 1000000) (disch := omega) only [↓xsP, ↓vc_seq, xsQ, xsT, xsR, xsD, ↓reduceIte, reduceCtorEq, eq_self, ne_eq, imp_self, forall_const, Nat.reduceEqDiff, Nat.reduceAdd, Nat.reduceSub, Nat.reduceMul, Nat.reduceLT, Nat.reduceLeDiff, Nat.reduceBEq, Nat.reduceDiv, Nat.reduceMod, Int.reduceToNat, Int.reduceNeg, Int.reduceAdd, Int.reduceSub, Int.reduceMul, Int.reduceEq, Int.reduceNe, Int.reduceLT, Int.reduceLE, Int.reduceGT, Int.reduceGE, trA, w1, hk, Int.cast_ofNat_Int, hix]
  refine call_of (vtext_spec 0 (preN 0 t23) hlen hP hG ints23 htx _) ?_
  rw [txt23]
  simp -implicitDefEqProofs (maxSteps := 1000000) (disch := omega) only [↓xsP, ↓vc_seq, xsQ, xsT, xsR, xsD, ↓reduceIte, reduceCtorEq, eq_self, ne_eq, imp_self, forall_const, Nat.reduceEqDiff, Nat.reduceAdd, Nat.reduceSub, Nat.reduceMul, Nat.reduceLT, Nat.reduceLeDiff, Nat.reduceBEq, Nat.reduceDiv, Nat.reduceMod, Int.reduceToNat, Int.reduceNeg, Int.reduceAdd, Int.reduceSub, Int.reduceMul, Int.reduceEq, Int.reduceNe, Int.reduceLT, Int.reduceLE, Int.reduceGT, Int.reduceGE, txt]
  exact fin_ok (le_new (Mem.le_refl _) hid1) ⟨congrArg (fun b => AV.l (Lf.bool b)) (decide_eq_true rfl), rfl⟩
theorem viewRaw_walk (s : List UInt8) (M : Mem) :
    XCalls Go.Proofs.Tryd.prog 4 [.l (txt s)] M fun r M' => r = .l (.bool true) ∧ M' = M := by
  refine xcalls_intro (rs := [.tmp 2]) Go.Proofs.Tryd.func4 rfl (by kernel_rfl) rfl rfl (by kernel_rfl) (by simp) ?_
  simp -implicitDefEqProofs (maxSteps := 1000000) (disch := omega) only [↓xsP, ↓vc_seq, xsQ, xsT, xsR, xsD, ↓reduceIte, reduceCtorEq, eq_self, ne_eq, imp_self, forall_const, Nat.reduceEqDiff, Nat.reduceAdd, Nat.reduceSub, Nat.reduceMul, Nat.reduceLT, Nat.reduceLeDiff, Nat.reduceBEq, Nat.reduceDiv, Nat.reduceMod, Int.reduceToNat, Int.reduceNeg, Int.reduceAdd, Int.reduceSub, Int.reduceMul, Int.reduceEq, Int.reduceNe, Int.reduceLT, Int.reduceLE, Int.reduceGT, Int.reduceGE, txt, ba_size]
  by_cases h1 : s.length ≤ 3000
  rotate_left
  · have q1 : decide ((s.length : Int) > 3000) = true := decide_eq_true (by omega)
    simp -implicitDefEqProofs (maxSteps := 1000000) (disch := omega) only [↓xsP, ↓vc_seq, xsQ, xsT, xsR, xsD, ↓reduceIte, reduceCtorEq, eq_self, ne_eq, imp_self, forall_const, Nat.reduceEqDiff, Nat.reduceAdd, Nat.reduceSub, Nat.reduceMul, Nat.reduceLT, Nat.reduceLeDiff, Nat.reduceBEq, Nat.reduceDiv, Nat.reduceMod, Int.reduceToNat, Int.reduceNeg, Int.reduceAdd, Int.reduceSub, Int.reduceMul, Int.reduceEq, Int.reduceNe, Int.reduceLT, Int.reduceLE, Int.reduceGT, Int.reduceGE, q1]
    refine call_of (awake23_spec _) ?_
    simp -implicitDefEqProofs (maxSteps := 1000000) (disch := omega) only [↓xsP, ↓vc_seq, xsQ, xsT, xsR, xsD, ↓reduceIte, reduceCtorEq, eq_self, ne_eq, imp_self, forall_const, Nat.reduceEqDiff, Nat.reduceAdd, Nat.reduceSub, Nat.reduceMul, Nat.reduceLT, Nat.reduceLeDiff, Nat.reduceBEq, Nat.reduceDiv, Nat.reduceMod, Int.reduceToNat, Int.reduceNeg, Int.reduceAdd, Int.reduceSub, Int.reduceMul, Int.reduceEq, Int.reduceNe, Int.reduceLT, Int.reduceLE, Int.reduceGT, Int.reduceGE]
    exact fin_ok (Mem.le_refl _) ⟨rfl, rfl⟩
  have q1 : decide ((s.length : Int) > 3000) = false := decide_eq_false (by omega)
  simp -implicitDefEqProofs (maxSteps := 1000000) (disch := omega) only [↓xsP, ↓vc_seq, xsQ, xsT, xsR, xsD, ↓reduceIte, reduceCtorEq, eq_self, ne_eq, imp_self, forall_const, Nat.reduceEqDiff, Nat.reduceAdd, Nat.reduceSub, Nat.reduceMul, Nat.reduceLT, Nat.reduceLeDiff, Nat.reduceBEq, Nat.reduceDiv, Nat.reduceMod, Int.reduceToNat, Int.reduceNeg, Int.reduceAdd, Int.reduceSub, Int.reduceMul, Int.reduceEq, Int.reduceNe, Int.reduceLT, Int.reduceLE, Int.reduceGT, Int.reduceGE, q1, txt]
  refine callI_of ((parse_spec s (by omega) _).mono ?_)
  rintro _ M ⟨rfl, ⟨T, hT, rfl⟩ | ⟨hno, rfl⟩⟩
  rotate_left
  · simp -implicitDefEqProofs (maxSteps := 1000000) (disch := omega) only [↓xsP, ↓vc_seq, xsQ, xsT, xsR, xsD, ↓reduceIte, reduceCtorEq, eq_self, ne_eq, imp_self, forall_const, Nat.reduceEqDiff, Nat.reduceAdd, Nat.reduceSub, Nat.reduceMul, Nat.reduceLT, Nat.reduceLeDiff, Nat.reduceBEq, Nat.reduceDiv, Nat.reduceMod, Int.reduceToNat, Int.reduceNeg, Int.reduceAdd, Int.reduceSub, Int.reduceMul, Int.reduceEq, Int.reduceNe, Int.reduceLT, Int.reduceLE, Int.reduceGT, Int.reduceGE, trA]
    refine newI_intro fun id3 hid3 => ?_
    simp -implicitDefEqProofs (maxSteps := 1000000) (disch := omega) only [↓xsP, ↓vc_seq, xsQ, xsT, xsR, xsD, ↓reduceIte, reduceCtorEq, eq_self, ne_eq, imp_self, forall_const, Nat.reduceEqDiff, Nat.reduceAdd, Nat.reduceSub, Nat.reduceMul, Nat.reduceLT, Nat.reduceLeDiff, Nat.reduceBEq, Nat.reduceDiv, Nat.reduceMod, Int.reduceToNat, Int.reduceNeg, Int.reduceAdd, Int.reduceSub, Int.reduceMul, Int.reduceEq, Int.reduceNe, Int.reduceLT, Int.reduceLE, Int.reduceGT, Int.reduceGE, trA, Int.cast_ofNat_Int]
    refine call_of (awake23_spec _) ?_
    simp -implicitDefEqProofs (maxSteps := 1000000) (disch := omega) only [↓xsP, ↓vc_seq, xsQ, xsT, xsR, xsD, ↓reduceIte, reduceCtorEq, eq_self, ne_eq, imp_self, forall_const, Nat.reduceEqDiff, Nat.reduceAdd, Nat.reduceSub, Nat.reduceMul, Nat.reduceLT, Nat.reduceLeDiff, Nat.reduceBEq, Nat.reduceDiv, Nat.reduceMod, Int.reduceToNat, Int.reduceNeg, Int.reduceAdd, Int.reduceSub, Int.reduceMul, Int.reduceEq, Int.reduceNe, Int.reduceLT, Int.reduceLE, Int.reduceGT, Int.reduceGE]
    exact fin_ok (le_new (Mem.le_refl _) hid3) ⟨rfl, rfl⟩
  have hG := good_pars hT
  have hP := pok_pars hT
  have hpl := preN_len T 0
  have hsz := hT.2.2.1
  have hlen : (preN 0 T).length ≤ 140737488355328 := by rw [hpl]; omega
  have hts : T.txt = s := by
    have := treeAt_txt hT.2.1
    rw [List.append_nil] at this
    exact this.symm
  have htx : T.txt.length ≤ 1000000 := by rw [hts]; omega
  have hint := hang_ints hT.2.1
  simp -implicitDefEqProofs (maxSteps := 1000000) (disch := omega) only [↓xsP, ↓vc_seq, xsQ, xsT, xsR, xsD, ↓reduceIte, reduceCtorEq, eq_self, ne_eq, imp_self, forall_const, Nat.reduceEqDiff, Nat.reduceAdd, Nat.reduceSub, Nat.reduceMul, Nat.reduceLT, Nat.reduceLeDiff, Nat.reduceBEq, Nat.reduceDiv, Nat.reduceMod, Int.reduceToNat, Int.reduceNeg, Int.reduceAdd, Int.reduceSub, Int.reduceMul, Int.reduceEq, Int.reduceNe, Int.reduceLT, Int.reduceLE, Int.reduceGT, Int.reduceGE, trA]
  refine newI_intro fun id3 hid3 => ?_
  simp -implicitDefEqProofs (maxSteps := 1000000) (disch := omega) only [↓xsP, ↓vc_seq, xsQ, xsT, xsR, xsD, ↓reduceIte, reduceCtorEq, eq_self, ne_eq, imp_self, forall_const, Nat.reduceEqDiff, Nat.reduceAdd, Nat.reduceSub, Nat.reduceMul, Nat.reduceLT, Nat.reduceLeDiff, Nat.reduceBEq, Nat.reduceDiv, Nat.reduceMod, Int.reduceToNat, Int.reduceNeg, Int.reduceAdd, Int.reduceSub, Int.reduceMul, Int.reduceEq, Int.reduceNe, Int.reduceLT, Int.reduceLE, Int.reduceGT, Int.reduceGE, trA, txt]
  refine xquiet (by kernel_rfl) (by kernel_rfl) (by kernel_rfl) ?_
  simp -implicitDefEqProofs (maxSteps := 1000000) (disch := omega) only [↓xsP, ↓vc_seq, xsQ, xsT, xsR, xsD, ↓reduceIte, reduceCtorEq, eq_self, ne_eq, imp_self, forall_const, Nat.reduceEqDiff, Nat.reduceAdd, Nat.reduceSub, Nat.reduceMul, Nat.reduceLT, Nat.reduceLeDiff, Nat.reduceBEq, Nat.reduceDiv, Nat.reduceMod, Int.reduceToNat, Int.reduceNeg, Int.reduceAdd, Int.reduceSub, Int.reduceMul, Int.reduceEq, Int.reduceNe, Int.reduceLT, Int.reduceLE, Int.reduceGT, Int.reduceGE, trA, txt]
  refine dcallI_of (tmay_spec 0 (preN 0 T) hlen hP _) ?_
  rw [hG.may]
  simp -implicitDefEqProofs (maxSteps := 1000000) (disch := omega) only [↓xsP, ↓vc_seq, xsQ, xsT, xsR, xsD, ↓reduceIte, reduceCtorEq, eq_self, ne_eq, imp_self, forall_const, Nat.reduceEqDiff, Nat.reduceAdd, Nat.reduceSub, Nat.reduceMul, Nat.reduceLT, Nat.reduceLeDiff, Nat.reduceBEq, Nat.reduceDiv, Nat.reduceMod, Int.reduceToNat, Int.reduceNeg, Int.reduceAdd, Int.reduceSub, Int.reduceMul, Int.reduceEq, Int.reduceNe, Int.reduceLT, Int.reduceLE, Int.reduceGT, Int.reduceGE, trA, txt]
  refine dcallI_of (vtext_spec 0 (preN 0 T) hlen hP hG hint htx _) ?_
  rw [hts]
  have w1 : decide ((⟨s.toArray⟩ : ByteArray) = ⟨s.toArray⟩) = true := decide_eq_true rfl
  simp -implicitDefEqProofs (maxSteps := 1000000) (disch := omega) only [↓xsP, ↓vc_seq, xsQ, xsT, xsR, xsD, ↓reduceIte, reduceCtorEq, eq_self, ne_eq, imp_self, forall_const, Nat.reduceEqDiff, Nat.reduceAdd, Nat.reduceSub, Nat.reduceMul, Nat.reduceLT, Nat.reduceLeDiff, Nat.reduceBEq, Nat.reduceDiv, Nat.reduceMod, Int.reduceToNat, Int.reduceNeg, Int.reduceAdd, Int.reduceSub, Int.reduceMul, Int.reduceEq, Int.reduceNe, Int.reduceLT, Int.reduceLE, Int.reduceGT, Int.reduceGE, trA, txt, w1]
  refine dcallI_of (vdeep_spec 0 (preN 0 T) hlen hP hG _) ?_
  have w2 : decide ((T.deep : Int) < ((preN 0 T).length : Int)) = true := decide_eq_true (by have := T.deep_lt; omega)
  simp -implicitDefEqProofs (maxSteps := 1000000) (disch := omega) only [↓xsP, ↓vc_seq, xsQ, xsT, xsR, xsD, ↓reduceIte, reduceCtorEq, eq_self, ne_eq, imp_self, forall_const, Nat.reduceEqDiff, Nat.reduceAdd, Nat.reduceSub, Nat.reduceMul, Nat.reduceLT, Nat.reduceLeDiff, Nat.reduceBEq, Nat.reduceDiv, Nat.reduceMod, Int.reduceToNat, Int.reduceNeg, Int.reduceAdd, Int.reduceSub, Int.reduceMul, Int.reduceEq, Int.reduceNe, Int.reduceLT, Int.reduceLE, Int.reduceGT, Int.reduceGE, trA, txt, w1, w2]
  refine dcallI_of (awake23_spec _) ?_
  simp -implicitDefEqProofs (maxSteps := 1000000) (disch := omega) only [↓xsP, ↓vc_seq, xsQ, xsT, xsR, xsD, ↓reduceIte, reduceCtorEq, eq_self, ne_eq, imp_self, forall_const, Nat.reduceEqDiff, Nat.reduceAdd, Nat.reduceSub, Nat.reduceMul, Nat.reduceLT, Nat.reduceLeDiff, Nat.reduceBEq, Nat.reduceDiv, Nat.reduceMod, Int.reduceToNat, Int.reduceNeg, Int.reduceAdd, Int.reduceSub, Int.reduceMul, Int.reduceEq, Int.reduceNe, Int.reduceLT, Int.reduceLE, Int.reduceGT, Int.reduceGE, trA, txt, w1, w2]
  exact fin_ok (le_new (Mem.le_refl _) hid3) ⟨rfl, rfl⟩
end Go.X
