/- Texts joined: Sg St Su We Ba Bb. -/
import Derived.Test.YtddmalpfmcggjaaZ4
import Derived.Test.YtddmalpfmcggjaaRows
import Derived.Test.YtddmalpfmcggjaaZ3
import Derived.JoinedCond

/- Scripts: alone. -/

set_option linter.unusedVariables false
set_option linter.unusedSimpArgs false
set_option maxHeartbeats 20000000
set_option maxRecDepth 100000
namespace Go.X
open Go.Proofs.Try (prog)

/-- Rows more, of a slice that is never written any more. -/
theorem app_outS {e t : TypeId} {ti te : TI} (hti : tiOf Go.Proofs.Try.prog t = some ti) (hd : ti.d = .slice e) (hte : tiOf Go.Proofs.Try.prog e = some te) (hz : zeroFits Go.Proofs.Try.prog e = true) (hsz : 0 < te.size) (hby : te.bytes ≤ 128)
    {M M' : Mem} {v : Lf} {rows src : List (List Lf)} (hr : ∀ r ∈ src, r.length = te.size) (h : OutR e M v M' rows) (hlen : rows.length + src.length ≤ 1000001) {K : AV → Mem → Prop}
    (hc : ∀ v' N' M2, OutR e M v' M2 (rows ++ src) → M2.le N' → K (.l v') N') :
    @appI Go.Proofs.Try.prog M' t t (.l v) (.l (.sl src)) ⟨K⟩ := by
  have hsrc : ∀ X : Mem, srcRows Go.Proofs.Try.prog X t t e te (.l (.sl src)) = some src := fun X => by
    simp only [srcRows, if_true]
    rw [if_pos hr]
  rcases h with ⟨rfl, rfl, rfl⟩ | ⟨idO, hO, rfl, rfl⟩
  · refine app_nils _ _ _ _ e _ _ hti hd hte hz hsz _ src (hsrc _) ?_ ?_ ?_ ?_
    · have h1 : src.length * te.bytes ≤ 1000001 * 128 := Nat.mul_le_mul (by simp at hlen; omega) hby
      omega
    · simp at hlen
      omega
    · intro h0
      refine hc _ _ M' ?_ (Mem.le_refl _)
      rw [h0]
      exact OutR.nil _ _
    · intro _ idA hidA
      exact hc _ _ _ (.inr ⟨idA, hidA, rfl, rfl⟩) (Mem.le_refl _)
  · refine app_ms _ _ _ _ e _ _ hti hd hte hz hsz idO rows.length _ (rows := rows) (keep := 0) src (Mem.set_eq _ _ _) (hsrc _) (Nat.le_refl _) (Nat.zero_le _) ?_ ?_ ?_
    · have h1 : (rows.length + src.length) * te.bytes ≤ 1000001 * 128 := Nat.mul_le_mul hlen hby
      omega
    · omega
    · intro idA hidA
      obtain ⟨hOA, hA⟩ := bnd_new hidA
      refine hc _ _ _ (.inr ⟨idA, hA, by simp, rfl⟩) (le_seti ?_ fun k bk hk hh => ?_)
      · rw [Mem.set_eq, List.take_of_length_le (Nat.le_refl _)]
      · have h0 := lt_of_bnd hO hh
        have := lt_of_bnd hA hh
        rw [Mem.set_ne _ _ _ _ (by omega), Mem.del_ne _ _ _ (by omega), Mem.set_ne _ _ _ _ (by omega)]
        exact hh
theorem totO2_take {L : List (List Opn)} {i : Nat} (hi : i < L.length) : (L.take (i + 1)).flatten = (L.take i).flatten ++ L.getD i default := by
  rw [take_snoc L hi, List.flatten_append]
  simp
theorem totO2_le (L : List (List Opn)) (i : Nat) : (L.take i).flatten.length ≤ L.flatten.length := by
  conv => rhs; rw [← List.take_append_drop i L]
  rw [List.flatten_append, List.length_append]
  omega
theorem concatO_spec (L : List (List Opn)) (hln : L.length ≤ 1000) (htot : L.flatten.length ≤ 2000002) (M : Mem) :
    XCalls Go.Proofs.Try.prog 52 [.l (.sl (L.map oprow))] M fun r M' => r = .l (.sl (L.flatten.map Opn.row)) ∧ M' = M := by
  refine xcalls_intro (rs := [.tmp 2]) Go.Proofs.Try.func52 rfl (by kernel_rfl) rfl rfl (by kernel_rfl) (by simp) ?_
  refine vc_seq_of ?_
  simp -implicitDefEqProofs (maxSteps := 1000000) (disch := omega) only [↓xsP, xsQ, xsT, xsR, xsD, ↓reduceIte, reduceCtorEq, eq_self, ne_eq, imp_self, forall_const, Nat.reduceEqDiff, Nat.reduceAdd, Nat.reduceSub, Nat.reduceMul, Nat.reduceLT, Nat.reduceLeDiff, Nat.reduceBEq, Nat.reduceDiv, Nat.reduceMod, Int.reduceToNat, Int.reduceNeg, Int.reduceAdd, Int.reduceSub, Int.reduceMul, Int.reduceEq, Int.reduceNe, Int.reduceLT, Int.reduceLE, Int.reduceGT, Int.reduceGE]
  refine vc_seq_of ?_
  simp -implicitDefEqProofs (maxSteps := 1000000) (disch := omega) only [↓xsP, xsQ, xsT, xsR, xsD, ↓reduceIte, reduceCtorEq, eq_self, ne_eq, imp_self, forall_const, Nat.reduceEqDiff, Nat.reduceAdd, Nat.reduceSub, Nat.reduceMul, Nat.reduceLT, Nat.reduceLeDiff, Nat.reduceBEq, Nat.reduceDiv, Nat.reduceMod, Int.reduceToNat, Int.reduceNeg, Int.reduceAdd, Int.reduceSub, Int.reduceMul, Int.reduceEq, Int.reduceNe, Int.reduceLT, Int.reduceLE, Int.reduceGT, Int.reduceGE]
  refine vc_cut (fun fr N => N = M ∧ fr 0 = .l (.sl (L.map oprow)) ∧ fr 3 = .l (.int .i64 L.flatten.length)) ?_ ?_
  · simp -implicitDefEqProofs (maxSteps := 1000000) (disch := omega) only [↓xsP, ↓vc_seq, xsQ, xsT, xsR, xsD, ↓reduceIte, reduceCtorEq, eq_self, ne_eq, imp_self, forall_const, Nat.reduceEqDiff, Nat.reduceAdd, Nat.reduceSub, Nat.reduceMul, Nat.reduceLT, Nat.reduceLeDiff, Nat.reduceBEq, Nat.reduceDiv, Nat.reduceMod, Int.reduceToNat, Int.reduceNeg, Int.reduceAdd, Int.reduceSub, Int.reduceMul, Int.reduceEq, Int.reduceNe, Int.reduceLT, Int.reduceLE, Int.reduceGT, Int.reduceGE]
    refine loopI_of (xloop (by kernel_rfl) (fun k fr M' => ∃ i : Nat, i ≤ L.length ∧ k = L.length - i ∧ fr 0 = .l (.sl (L.map oprow)) ∧ fr 3 = .l (.int .i64 (L.take i).flatten.length) ∧ fr 9 = .l (.sl (L.map oprow)) ∧ fr 10 = .l (.int .i64 L.length) ∧ fr 11 = .l (.int .i64 i) ∧ M' = M) L.length ?_ ?_)
    · exact ⟨0, Nat.zero_le _, rfl, by simp -implicitDefEqProofs (maxSteps := 1000000) (disch := omega) only [↓xsP, ↓vc_seq, xsQ, xsT, xsR, xsD, ↓reduceIte, reduceCtorEq, eq_self, ne_eq, imp_self, forall_const, Nat.reduceEqDiff, Nat.reduceAdd, Nat.reduceSub, Nat.reduceMul, Nat.reduceLT, Nat.reduceLeDiff, Nat.reduceBEq, Nat.reduceDiv, Nat.reduceMod, Int.reduceToNat, Int.reduceNeg, Int.reduceAdd, Int.reduceSub, Int.reduceMul, Int.reduceEq, Int.reduceNe, Int.reduceLT, Int.reduceLE, Int.reduceGT, Int.reduceGE], by simp -implicitDefEqProofs (maxSteps := 1000000) (disch := omega) only [↓xsP, ↓vc_seq, xsQ, xsT, xsR, xsD, ↓reduceIte, reduceCtorEq, eq_self, ne_eq, imp_self, forall_const, Nat.reduceEqDiff, Nat.reduceAdd, Nat.reduceSub, Nat.reduceMul, Nat.reduceLT, Nat.reduceLeDiff, Nat.reduceBEq, Nat.reduceDiv, Nat.reduceMod, Int.reduceToNat, Int.reduceNeg, Int.reduceAdd, Int.reduceSub, Int.reduceMul, Int.reduceEq, Int.reduceNe, Int.reduceLT, Int.reduceLE, Int.reduceGT, Int.reduceGE, Int.cast_ofNat_Int], by simp -implicitDefEqProofs (maxSteps := 1000000) (disch := omega) only [↓xsP, ↓vc_seq, xsQ, xsT, xsR, xsD, ↓reduceIte, reduceCtorEq, eq_self, ne_eq, imp_self, forall_const, Nat.reduceEqDiff, Nat.reduceAdd, Nat.reduceSub, Nat.reduceMul, Nat.reduceLT, Nat.reduceLeDiff, Nat.reduceBEq, Nat.reduceDiv, Nat.reduceMod, Int.reduceToNat, Int.reduceNeg, Int.reduceAdd, Int.reduceSub, Int.reduceMul, Int.reduceEq, Int.reduceNe, Int.reduceLT, Int.reduceLE, Int.reduceGT, Int.reduceGE], by simp -implicitDefEqProofs (maxSteps := 1000000) (disch := omega) only [↓xsP, ↓vc_seq, xsQ, xsT, xsR, xsD, ↓reduceIte, reduceCtorEq, eq_self, ne_eq, imp_self, forall_const, Nat.reduceEqDiff, Nat.reduceAdd, Nat.reduceSub, Nat.reduceMul, Nat.reduceLT, Nat.reduceLeDiff, Nat.reduceBEq, Nat.reduceDiv, Nat.reduceMod, Int.reduceToNat, Int.reduceNeg, Int.reduceAdd, Int.reduceSub, Int.reduceMul, Int.reduceEq, Int.reduceNe, Int.reduceLT, Int.reduceLE, Int.reduceGT, Int.reduceGE], by simp -implicitDefEqProofs (maxSteps := 1000000) (disch := omega) only [↓xsP, ↓vc_seq, xsQ, xsT, xsR, xsD, ↓reduceIte, reduceCtorEq, eq_self, ne_eq, imp_self, forall_const, Nat.reduceEqDiff, Nat.reduceAdd, Nat.reduceSub, Nat.reduceMul, Nat.reduceLT, Nat.reduceLeDiff, Nat.reduceBEq, Nat.reduceDiv, Nat.reduceMod, Int.reduceToNat, Int.reduceNeg, Int.reduceAdd, Int.reduceSub, Int.reduceMul, Int.reduceEq, Int.reduceNe, Int.reduceLT, Int.reduceLE, Int.reduceGT, Int.reduceGE, Int.cast_ofNat_Int], rfl⟩
    · rintro k fr M' ⟨i, hi, rfl, h0, h3, h9, h10, h11, rfl⟩
      simp -implicitDefEqProofs (maxSteps := 1000000) (disch := omega) only [↓xsP, ↓vc_seq, xsQ, xsT, xsR, xsD, ↓reduceIte, reduceCtorEq, eq_self, ne_eq, imp_self, forall_const, Nat.reduceEqDiff, Nat.reduceAdd, Nat.reduceSub, Nat.reduceMul, Nat.reduceLT, Nat.reduceLeDiff, Nat.reduceBEq, Nat.reduceDiv, Nat.reduceMod, Int.reduceToNat, Int.reduceNeg, Int.reduceAdd, Int.reduceSub, Int.reduceMul, Int.reduceEq, Int.reduceNe, Int.reduceLT, Int.reduceLE, Int.reduceGT, Int.reduceGE, h0, h3, h9, h10, h11]
      refine condI_prop (fun hlt => ?_) (fun hlt => ?_)
      · have hi' : i < L.length := by omega
        have ht := totO2_take hi'
        have htl := totO2_le L (i + 1)
        rw [ht, List.length_append] at htl
        obtain ⟨l, hl⟩ : ∃ l, L.getD i default = l := ⟨_, rfl⟩
        rw [hl] at ht htl
        simp -implicitDefEqProofs (maxSteps := 1000000) (disch := omega) only [↓xsP, ↓vc_seq, xsQ, xsT, xsR, xsD, ↓reduceIte, reduceCtorEq, eq_self, ne_eq, imp_self, forall_const, Nat.reduceEqDiff, Nat.reduceAdd, Nat.reduceSub, Nat.reduceMul, Nat.reduceLT, Nat.reduceLeDiff, Nat.reduceBEq, Nat.reduceDiv, Nat.reduceMod, Int.reduceToNat, Int.reduceNeg, Int.reduceAdd, Int.reduceSub, Int.reduceMul, Int.reduceEq, Int.reduceNe, Int.reduceLT, Int.reduceLE, Int.reduceGT, Int.reduceGE, h0, h3, h9, h10, h11, hl]
        have hneg : (((L.take i).flatten.length : Int) + (l.length : Int) < 0) = False := eq_false (by omega)
        simp -implicitDefEqProofs (maxSteps := 1000000) (disch := omega) only [↓xsP, ↓vc_seq, xsQ, xsT, xsR, xsD, ↓reduceIte, reduceCtorEq, eq_self, ne_eq, imp_self, forall_const, Nat.reduceEqDiff, Nat.reduceAdd, Nat.reduceSub, Nat.reduceMul, Nat.reduceLT, Nat.reduceLeDiff, Nat.reduceBEq, Nat.reduceDiv, Nat.reduceMod, Int.reduceToNat, Int.reduceNeg, Int.reduceAdd, Int.reduceSub, Int.reduceMul, Int.reduceEq, Int.reduceNe, Int.reduceLT, Int.reduceLE, Int.reduceGT, Int.reduceGE, h0, h3, h9, h10, h11, hneg]
        exact ⟨L.length - (i + 1), M', by omega, Mem.le_refl _, i + 1, by omega, rfl, by rw [ht]; simp, rfl, rfl⟩
      · simp -implicitDefEqProofs (maxSteps := 1000000) (disch := omega) only [↓xsP, ↓vc_seq, xsQ, xsT, xsR, xsD, ↓reduceIte, reduceCtorEq, eq_self, ne_eq, imp_self, forall_const, Nat.reduceEqDiff, Nat.reduceAdd, Nat.reduceSub, Nat.reduceMul, Nat.reduceLT, Nat.reduceLeDiff, Nat.reduceBEq, Nat.reduceDiv, Nat.reduceMod, Int.reduceToNat, Int.reduceNeg, Int.reduceAdd, Int.reduceSub, Int.reduceMul, Int.reduceEq, Int.reduceNe, Int.reduceLT, Int.reduceLE, Int.reduceGT, Int.reduceGE, h0, h3, h9, h10, h11]
        have hil : i = L.length := by omega
        rw [hil, List.take_length]
  · rintro fr N ⟨rfl, h0, h3⟩
    refine vc_cut (fun fr M1 => fr 0 = .l (.sl (L.map oprow)) ∧ ((L.flatten = [] ∧ fr 6 = .l .nils ∧ M1 = N) ∨ ∃ idR rows, (∀ j, idR ≤ j → N j = none) ∧ fr 6 = .l (.ms idR 0 0) ∧ M1 = N.set idR (.cells 34 rows 0))) ?_ ?_
    · simp -implicitDefEqProofs (maxSteps := 1000000) (disch := omega) only [↓xsP, ↓vc_seq, xsQ, xsT, xsR, xsD, ↓reduceIte, reduceCtorEq, eq_self, ne_eq, imp_self, forall_const, Nat.reduceEqDiff, Nat.reduceAdd, Nat.reduceSub, Nat.reduceMul, Nat.reduceLT, Nat.reduceLeDiff, Nat.reduceBEq, Nat.reduceDiv, Nat.reduceMod, Int.reduceToNat, Int.reduceNeg, Int.reduceAdd, Int.reduceSub, Int.reduceMul, Int.reduceEq, Int.reduceNe, Int.reduceLT, Int.reduceLE, Int.reduceGT, Int.reduceGE, h0, h3]
      refine callI_of ((growO_spec L.flatten.length htot _).mono ?_)
      rintro r M1 (⟨rfl, h2, rfl⟩ | ⟨id, h1, rfl, rfl⟩)
      · simp -implicitDefEqProofs (maxSteps := 1000000) (disch := omega) only [↓xsP, ↓vc_seq, xsQ, xsT, xsR, xsD, ↓reduceIte, reduceCtorEq, eq_self, ne_eq, imp_self, forall_const, Nat.reduceEqDiff, Nat.reduceAdd, Nat.reduceSub, Nat.reduceMul, Nat.reduceLT, Nat.reduceLeDiff, Nat.reduceBEq, Nat.reduceDiv, Nat.reduceMod, Int.reduceToNat, Int.reduceNeg, Int.reduceAdd, Int.reduceSub, Int.reduceMul, Int.reduceEq, Int.reduceNe, Int.reduceLT, Int.reduceLE, Int.reduceGT, Int.reduceGE, h0, h3]
        exact .inl (List.eq_nil_of_length_eq_zero h2)
      · simp -implicitDefEqProofs (maxSteps := 1000000) (disch := omega) only [↓xsP, ↓vc_seq, xsQ, xsT, xsR, xsD, ↓reduceIte, reduceCtorEq, eq_self, ne_eq, imp_self, forall_const, Nat.reduceEqDiff, Nat.reduceAdd, Nat.reduceSub, Nat.reduceMul, Nat.reduceLT, Nat.reduceLeDiff, Nat.reduceBEq, Nat.reduceDiv, Nat.reduceMod, Int.reduceToNat, Int.reduceNeg, Int.reduceAdd, Int.reduceSub, Int.reduceMul, Int.reduceEq, Int.reduceNe, Int.reduceLT, Int.reduceLE, Int.reduceGT, Int.reduceGE, h0, h3]
        exact .inr ⟨id, _, h1, rfl, rfl⟩
    · clear h0 h3
      rintro fr M1 ⟨h0, hst⟩
      simp -implicitDefEqProofs (maxSteps := 1000000) (disch := omega) only [↓xsP, ↓vc_seq, xsQ, xsT, xsR, xsD, ↓reduceIte, reduceCtorEq, eq_self, ne_eq, imp_self, forall_const, Nat.reduceEqDiff, Nat.reduceAdd, Nat.reduceSub, Nat.reduceMul, Nat.reduceLT, Nat.reduceLeDiff, Nat.reduceBEq, Nat.reduceDiv, Nat.reduceMod, Int.reduceToNat, Int.reduceNeg, Int.reduceAdd, Int.reduceSub, Int.reduceMul, Int.reduceEq, Int.reduceNe, Int.reduceLT, Int.reduceLE, Int.reduceGT, Int.reduceGE, h0]
      refine loopI_of (xloop (by kernel_rfl) (fun k fr M' => ∃ i : Nat, i ≤ L.length ∧ k = L.length - i ∧ fr 25 = .l (.sl (L.map oprow)) ∧ fr 26 = .l (.int .i64 L.length) ∧ fr 27 = .l (.int .i64 i) ∧
        ((L.flatten = [] ∧ fr 6 = .l .nils ∧ M' = N) ∨ ∃ idR rows, (∀ j, idR ≤ j → N j = none) ∧ fr 6 = .l (.ms idR 0 (L.take i).flatten.length) ∧ M' = N.set idR (.cells 34 rows 0) ∧ rows.take (L.take i).flatten.length = (L.take i).flatten.map Opn.row ∧ (L.take i).flatten.length ≤ rows.length)) L.length ?_ ?_)
      · refine ⟨0, Nat.zero_le _, rfl, by simp -implicitDefEqProofs (maxSteps := 1000000) (disch := omega) only [↓xsP, ↓vc_seq, xsQ, xsT, xsR, xsD, ↓reduceIte, reduceCtorEq, eq_self, ne_eq, imp_self, forall_const, Nat.reduceEqDiff, Nat.reduceAdd, Nat.reduceSub, Nat.reduceMul, Nat.reduceLT, Nat.reduceLeDiff, Nat.reduceBEq, Nat.reduceDiv, Nat.reduceMod, Int.reduceToNat, Int.reduceNeg, Int.reduceAdd, Int.reduceSub, Int.reduceMul, Int.reduceEq, Int.reduceNe, Int.reduceLT, Int.reduceLE, Int.reduceGT, Int.reduceGE], by simp -implicitDefEqProofs (maxSteps := 1000000) (disch := omega) only [↓xsP, ↓vc_seq, xsQ, xsT, xsR, xsD, ↓reduceIte, reduceCtorEq, eq_self, ne_eq, imp_self, forall_const, Nat.reduceEqDiff, Nat.reduceAdd, Nat.reduceSub, Nat.reduceMul, Nat.reduceLT, Nat.reduceLeDiff, Nat.reduceBEq, Nat.reduceDiv, Nat.reduceMod, Int.reduceToNat, Int.reduceNeg, Int.reduceAdd, Int.reduceSub, Int.reduceMul, Int.reduceEq, Int.reduceNe, Int.reduceLT, Int.reduceLE, Int.reduceGT, Int.reduceGE], by simp -implicitDefEqProofs (maxSteps := 1000000) (disch := omega) only [↓xsP, ↓vc_seq, xsQ, xsT, xsR, xsD, ↓reduceIte, reduceCtorEq, eq_self, ne_eq, imp_self, forall_const, Nat.reduceEqDiff, Nat.reduceAdd, Nat.reduceSub, Nat.reduceMul, Nat.reduceLT, Nat.reduceLeDiff, Nat.reduceBEq, Nat.reduceDiv, Nat.reduceMod, Int.reduceToNat, Int.reduceNeg, Int.reduceAdd, Int.reduceSub, Int.reduceMul, Int.reduceEq, Int.reduceNe, Int.reduceLT, Int.reduceLE, Int.reduceGT, Int.reduceGE, Int.cast_ofNat_Int], ?_⟩
        rcases hst with ⟨h1, h2, h3⟩ | ⟨idR, rows, h1, h2, h3⟩
        · exact .inl ⟨h1, by simp -implicitDefEqProofs (maxSteps := 1000000) (disch := omega) only [↓xsP, ↓vc_seq, xsQ, xsT, xsR, xsD, ↓reduceIte, reduceCtorEq, eq_self, ne_eq, imp_self, forall_const, Nat.reduceEqDiff, Nat.reduceAdd, Nat.reduceSub, Nat.reduceMul, Nat.reduceLT, Nat.reduceLeDiff, Nat.reduceBEq, Nat.reduceDiv, Nat.reduceMod, Int.reduceToNat, Int.reduceNeg, Int.reduceAdd, Int.reduceSub, Int.reduceMul, Int.reduceEq, Int.reduceNe, Int.reduceLT, Int.reduceLE, Int.reduceGT, Int.reduceGE, h2], h3⟩
        · exact .inr ⟨idR, rows, h1, by simp -implicitDefEqProofs (maxSteps := 1000000) (disch := omega) only [↓xsP, ↓vc_seq, xsQ, xsT, xsR, xsD, ↓reduceIte, reduceCtorEq, eq_self, ne_eq, imp_self, forall_const, Nat.reduceEqDiff, Nat.reduceAdd, Nat.reduceSub, Nat.reduceMul, Nat.reduceLT, Nat.reduceLeDiff, Nat.reduceBEq, Nat.reduceDiv, Nat.reduceMod, Int.reduceToNat, Int.reduceNeg, Int.reduceAdd, Int.reduceSub, Int.reduceMul, Int.reduceEq, Int.reduceNe, Int.reduceLT, Int.reduceLE, Int.reduceGT, Int.reduceGE, h2], h3, rfl, Nat.zero_le _⟩
      · rintro k fr M' ⟨i, hi, rfl, h25, h26, h27, hst⟩
        simp -implicitDefEqProofs (maxSteps := 1000000) (disch := omega) only [↓xsP, ↓vc_seq, xsQ, xsT, xsR, xsD, ↓reduceIte, reduceCtorEq, eq_self, ne_eq, imp_self, forall_const, Nat.reduceEqDiff, Nat.reduceAdd, Nat.reduceSub, Nat.reduceMul, Nat.reduceLT, Nat.reduceLeDiff, Nat.reduceBEq, Nat.reduceDiv, Nat.reduceMod, Int.reduceToNat, Int.reduceNeg, Int.reduceAdd, Int.reduceSub, Int.reduceMul, Int.reduceEq, Int.reduceNe, Int.reduceLT, Int.reduceLE, Int.reduceGT, Int.reduceGE, h25, h26, h27]
        refine condI_prop (fun hlt => ?_) (fun hlt => ?_)
        · have hi' : i < L.length := by omega
          have ht := totO2_take hi'
          have htl := totO2_le L (i + 1)
          rw [ht, List.length_append] at htl
          obtain ⟨l, hl⟩ : ∃ l, L.getD i default = l := ⟨_, rfl⟩
          rw [hl] at ht htl
          rcases hst with ⟨h1, h6, rfl⟩ | ⟨idR, rows, h1, h6, rfl, h7, h8⟩
          · have hLi : l = [] := by
              rw [h1] at htl
              simp only [List.length_nil] at htl
              exact List.eq_nil_of_length_eq_zero (by omega)
            subst hLi
            simp -implicitDefEqProofs (maxSteps := 1000000) (disch := omega) only [↓xsP, ↓vc_seq, xsQ, xsT, xsR, xsD, ↓reduceIte, reduceCtorEq, eq_self, ne_eq, imp_self, forall_const, Nat.reduceEqDiff, Nat.reduceAdd, Nat.reduceSub, Nat.reduceMul, Nat.reduceLT, Nat.reduceLeDiff, Nat.reduceBEq, Nat.reduceDiv, Nat.reduceMod, Int.reduceToNat, Int.reduceNeg, Int.reduceAdd, Int.reduceSub, Int.reduceMul, Int.reduceEq, Int.reduceNe, Int.reduceLT, Int.reduceLE, Int.reduceGT, Int.reduceGE, h25, h26, h27, hl, h6]
            refine app_srcO_nil (.inl rfl) ?_
            simp -implicitDefEqProofs (maxSteps := 1000000) (disch := omega) only [↓xsP, ↓vc_seq, xsQ, xsT, xsR, xsD, ↓reduceIte, reduceCtorEq, eq_self, ne_eq, imp_self, forall_const, Nat.reduceEqDiff, Nat.reduceAdd, Nat.reduceSub, Nat.reduceMul, Nat.reduceLT, Nat.reduceLeDiff, Nat.reduceBEq, Nat.reduceDiv, Nat.reduceMod, Int.reduceToNat, Int.reduceNeg, Int.reduceAdd, Int.reduceSub, Int.reduceMul, Int.reduceEq, Int.reduceNe, Int.reduceLT, Int.reduceLE, Int.reduceGT, Int.reduceGE, h25, h26, h27, h6]
            exact ⟨L.length - (i + 1), M', by omega, Mem.le_refl _, i + 1, by omega, rfl, by simp, .inl ⟨h1, rfl⟩⟩
          · simp -implicitDefEqProofs (maxSteps := 1000000) (disch := omega) only [↓xsP, ↓vc_seq, xsQ, xsT, xsR, xsD, ↓reduceIte, reduceCtorEq, eq_self, ne_eq, imp_self, forall_const, Nat.reduceEqDiff, Nat.reduceAdd, Nat.reduceSub, Nat.reduceMul, Nat.reduceLT, Nat.reduceLeDiff, Nat.reduceBEq, Nat.reduceDiv, Nat.reduceMod, Int.reduceToNat, Int.reduceNeg, Int.reduceAdd, Int.reduceSub, Int.reduceMul, Int.reduceEq, Int.reduceNe, Int.reduceLT, Int.reduceLE, Int.reduceGT, Int.reduceGE, h25, h26, h27, hl, h6]
            refine app_srcO (l := l) (.inl rfl) (Mem.set_eq _ _ _) h8 (Nat.zero_le _) (by omega) fun id' hid' => ?_
            obtain ⟨hRi, hid'⟩ := bnd_new hid'
            simp -implicitDefEqProofs (maxSteps := 1000000) (disch := omega) only [↓xsP, ↓vc_seq, xsQ, xsT, xsR, xsD, ↓reduceIte, reduceCtorEq, eq_self, ne_eq, imp_self, forall_const, Nat.reduceEqDiff, Nat.reduceAdd, Nat.reduceSub, Nat.reduceMul, Nat.reduceLT, Nat.reduceLeDiff, Nat.reduceBEq, Nat.reduceDiv, Nat.reduceMod, Int.reduceToNat, Int.reduceNeg, Int.reduceAdd, Int.reduceSub, Int.reduceMul, Int.reduceEq, Int.reduceNe, Int.reduceLT, Int.reduceLE, Int.reduceGT, Int.reduceGE, h25, h26, h27, h6]
            refine ⟨L.length - (i + 1), N.set id' (.cells 34 (rows.take (L.take i).flatten.length ++ l.map Opn.row) 0), by omega, le_clone (h1 _ (Nat.le_refl _)), i + 1, by omega, rfl, by simp, .inr ⟨id', _, hid', by rw [ht, List.length_append], rfl, ?_, ?_⟩⟩
            · rw [h7, ht, List.map_append, List.take_of_length_le (by simp only [List.length_append, List.length_map]; exact Nat.le_refl _)]
            · rw [h7, ht]
              simp only [List.length_append, List.length_map]
              exact Nat.le_refl _
        · simp -implicitDefEqProofs (maxSteps := 1000000) (disch := omega) only [↓xsP, ↓vc_seq, xsQ, xsT, xsR, xsD, ↓reduceIte, reduceCtorEq, eq_self, ne_eq, imp_self, forall_const, Nat.reduceEqDiff, Nat.reduceAdd, Nat.reduceSub, Nat.reduceMul, Nat.reduceLT, Nat.reduceLeDiff, Nat.reduceBEq, Nat.reduceDiv, Nat.reduceMod, Int.reduceToNat, Int.reduceNeg, Int.reduceAdd, Int.reduceSub, Int.reduceMul, Int.reduceEq, Int.reduceNe, Int.reduceLT, Int.reduceLE, Int.reduceGT, Int.reduceGE, h25, h26, h27]
          have hil : i = L.length := by omega
          subst hil
          rw [List.take_length] at hst
          rcases hst with ⟨h1, h6, rfl⟩ | ⟨idR, rows, h1, h6, rfl, h7, h8⟩
          · simp -implicitDefEqProofs (maxSteps := 1000000) (disch := omega) only [↓xsP, ↓vc_seq, xsQ, xsT, xsR, xsD, ↓reduceIte, reduceCtorEq, eq_self, ne_eq, imp_self, forall_const, Nat.reduceEqDiff, Nat.reduceAdd, Nat.reduceSub, Nat.reduceMul, Nat.reduceLT, Nat.reduceLeDiff, Nat.reduceBEq, Nat.reduceDiv, Nat.reduceMod, Int.reduceToNat, Int.reduceNeg, Int.reduceAdd, Int.reduceSub, Int.reduceMul, Int.reduceEq, Int.reduceNe, Int.reduceLT, Int.reduceLE, Int.reduceGT, Int.reduceGE, h6]
            refine finI_of (XFin.wk (XFin.here ⟨?_, rfl⟩))
            rw [h1]
            rfl
          · simp -implicitDefEqProofs (maxSteps := 1000000) (disch := omega) only [↓xsP, ↓vc_seq, xsQ, xsT, xsR, xsD, ↓reduceIte, reduceCtorEq, eq_self, ne_eq, imp_self, forall_const, Nat.reduceEqDiff, Nat.reduceAdd, Nat.reduceSub, Nat.reduceMul, Nat.reduceLT, Nat.reduceLeDiff, Nat.reduceBEq, Nat.reduceDiv, Nat.reduceMod, Int.reduceToNat, Int.reduceNeg, Int.reduceAdd, Int.reduceSub, Int.reduceMul, Int.reduceEq, Int.reduceNe, Int.reduceLT, Int.reduceLE, Int.reduceGT, Int.reduceGE, h6]
            refine finI_of (XFin.frz idR (Mem.set_eq _ _ _) (XFin.le ?_ ⟨?_, rfl⟩))
            · exact le_new (le_new (Mem.le_refl _) h1) h1
            · simp only [frzA, frz1, frzL, Nat.zero_add, List.drop_zero, h8, h7, eq_self, and_self, if_true]
theorem cleanRow_len (l : List Opn) : (cleanRow l).length ≤ 60 := by unfold cleanRow; rw [List.length_take]; omega
theorem rowsN_tot (s : Scr) (n : Nat) : (rowsN s n).flatten.length ≤ 60 * n := by
  induction n with
  | zero => simp [rowsN]
  | succ n ih =>
    rw [rowsN_succ, List.flatten_append, List.length_append]
    have := cleanRow_len (s.ops.getD n [])
    simp only [List.flatten_cons, List.flatten_nil, List.append_nil]
    omega
noncomputable def soloS (s : Scr) : Scr := ⟨1, (cleanS s).cells, (cleanS s).pol, (cleanS s).beg, [(cleanS s).ops.flatten.take 60], []⟩
theorem solo_spec (s : Scr) (hs : SmS s) (M : Mem) : XCalls Go.Proofs.Try.prog 27 [.agg s.row] M fun r M' => r = .agg (soloS s).row ∧ M' = M := by
  refine xcalls_intro (rs := [.cell 2 28]) Go.Proofs.Try.func27 rfl (by kernel_rfl) rfl rfl (by kernel_rfl) (by simp) ?_
  have hT := thrN_le s
  have htot := rowsN_tot s (thrN s)
  have hops : (cleanS s).ops = rowsN s (thrN s) := rfl
  have hlen : (rowsN s (thrN s)).length = thrN s := by simp [rowsN]
  simp -implicitDefEqProofs (maxSteps := 1000000) (disch := omega) only [↓xsP, ↓vc_seq, xsQ, xsT, xsR, xsD, ↓reduceIte, reduceCtorEq, eq_self, ne_eq, imp_self, forall_const, Nat.reduceEqDiff, Nat.reduceAdd, Nat.reduceSub, Nat.reduceMul, Nat.reduceLT, Nat.reduceLeDiff, Nat.reduceBEq, Nat.reduceDiv, Nat.reduceMod, Int.reduceToNat, Int.reduceNeg, Int.reduceAdd, Int.reduceSub, Int.reduceMul, Int.reduceEq, Int.reduceNe, Int.reduceLT, Int.reduceLE, Int.reduceGT, Int.reduceGE]
  refine newI_intro fun a ha => ?_
  simp -implicitDefEqProofs (maxSteps := 1000000) (disch := omega) only [↓xsP, ↓vc_seq, xsQ, xsT, xsR, xsD, ↓reduceIte, reduceCtorEq, eq_self, ne_eq, imp_self, forall_const, Nat.reduceEqDiff, Nat.reduceAdd, Nat.reduceSub, Nat.reduceMul, Nat.reduceLT, Nat.reduceLeDiff, Nat.reduceBEq, Nat.reduceDiv, Nat.reduceMod, Int.reduceToNat, Int.reduceNeg, Int.reduceAdd, Int.reduceSub, Int.reduceMul, Int.reduceEq, Int.reduceNe, Int.reduceLT, Int.reduceLE, Int.reduceGT, Int.reduceGE]
  refine newI_intro fun b hb => ?_
  obtain ⟨hab, hb'⟩ := bnd_new hb
  simp -implicitDefEqProofs (maxSteps := 1000000) (disch := omega) only [↓xsP, ↓vc_seq, xsQ, xsT, xsR, xsD, ↓reduceIte, reduceCtorEq, eq_self, ne_eq, imp_self, forall_const, Nat.reduceEqDiff, Nat.reduceAdd, Nat.reduceSub, Nat.reduceMul, Nat.reduceLT, Nat.reduceLeDiff, Nat.reduceBEq, Nat.reduceDiv, Nat.reduceMod, Int.reduceToNat, Int.reduceNeg, Int.reduceAdd, Int.reduceSub, Int.reduceMul, Int.reduceEq, Int.reduceNe, Int.reduceLT, Int.reduceLE, Int.reduceGT, Int.reduceGE]
  refine call_of (clean_spec s hs _) ?_
  have hsol : (soloS s).row = [.int .i64 1, .int .i64 (cleanS s).cells, .int .i64 (cleanS s).pol.high, .int .i64 (cleanS s).pol.low, .int .i64 (cleanS s).pol.cont, .int .i64 (cleanS s).pol.unc, .int .i64 (cleanS s).pol.multi, .sl ((cleanS s).beg.map Pr.row), .sl [[.sl (((cleanS s).ops.flatten.take 60).map Opn.row)]], .sl []] := rfl
  rw [hsol]
  rw [← hops] at htot hlen
  generalize cleanS s = c at htot hlen ⊢
  simp -implicitDefEqProofs (maxSteps := 1000000) (disch := omega) only [↓xsP, ↓vc_seq, xsQ, xsT, xsR, xsD, ↓reduceIte, reduceCtorEq, eq_self, ne_eq, imp_self, forall_const, Nat.reduceEqDiff, Nat.reduceAdd, Nat.reduceSub, Nat.reduceMul, Nat.reduceLT, Nat.reduceLeDiff, Nat.reduceBEq, Nat.reduceDiv, Nat.reduceMod, Int.reduceToNat, Int.reduceNeg, Int.reduceAdd, Int.reduceSub, Int.reduceMul, Int.reduceEq, Int.reduceNe, Int.reduceLT, Int.reduceLE, Int.reduceGT, Int.reduceGE]
  refine newI_intro fun d hd => ?_
  obtain ⟨hbd, hd'⟩ := bnd_new hd
  obtain ⟨had, hd''⟩ := bnd_new hd'
  simp -implicitDefEqProofs (maxSteps := 1000000) (disch := omega) only [↓xsP, ↓vc_seq, xsQ, xsT, xsR, xsD, ↓reduceIte, reduceCtorEq, eq_self, ne_eq, imp_self, forall_const, Nat.reduceEqDiff, Nat.reduceAdd, Nat.reduceSub, Nat.reduceMul, Nat.reduceLT, Nat.reduceLeDiff, Nat.reduceBEq, Nat.reduceDiv, Nat.reduceMod, Int.reduceToNat, Int.reduceNeg, Int.reduceAdd, Int.reduceSub, Int.reduceMul, Int.reduceEq, Int.reduceNe, Int.reduceLT, Int.reduceLE, Int.reduceGT, Int.reduceGE]
  refine call_of (concatO_spec c.ops (by omega) (by omega) _) ?_
  simp -implicitDefEqProofs (maxSteps := 1000000) (disch := omega) only [↓xsP, ↓vc_seq, xsQ, xsT, xsR, xsD, ↓reduceIte, reduceCtorEq, eq_self, ne_eq, imp_self, forall_const, Nat.reduceEqDiff, Nat.reduceAdd, Nat.reduceSub, Nat.reduceMul, Nat.reduceLT, Nat.reduceLeDiff, Nat.reduceBEq, Nat.reduceDiv, Nat.reduceMod, Int.reduceToNat, Int.reduceNeg, Int.reduceAdd, Int.reduceSub, Int.reduceMul, Int.reduceEq, Int.reduceNe, Int.reduceLT, Int.reduceLE, Int.reduceGT, Int.reduceGE]
  refine call_of (firstO_spec c.ops.flatten 60 _) ?_
  simp -implicitDefEqProofs (maxSteps := 1000000) (disch := omega) only [↓xsP, ↓vc_seq, xsQ, xsT, xsR, xsD, ↓reduceIte, reduceCtorEq, eq_self, ne_eq, imp_self, forall_const, Nat.reduceEqDiff, Nat.reduceAdd, Nat.reduceSub, Nat.reduceMul, Nat.reduceLT, Nat.reduceLeDiff, Nat.reduceBEq, Nat.reduceDiv, Nat.reduceMod, Int.reduceToNat, Int.reduceNeg, Int.reduceAdd, Int.reduceSub, Int.reduceMul, Int.reduceEq, Int.reduceNe, Int.reduceLT, Int.reduceLE, Int.reduceGT, Int.reduceGE]
  refine newI_intro fun e he => ?_
  have hde := lt_of_bnd he (Mem.set_eq _ d _)
  simp -implicitDefEqProofs (maxSteps := 1000000) (disch := omega) only [↓xsP, ↓vc_seq, xsQ, xsT, xsR, xsD, ↓reduceIte, reduceCtorEq, eq_self, ne_eq, imp_self, forall_const, Nat.reduceEqDiff, Nat.reduceAdd, Nat.reduceSub, Nat.reduceMul, Nat.reduceLT, Nat.reduceLeDiff, Nat.reduceBEq, Nat.reduceDiv, Nat.reduceMod, Int.reduceToNat, Int.reduceNeg, Int.reduceAdd, Int.reduceSub, Int.reduceMul, Int.reduceEq, Int.reduceNe, Int.reduceLT, Int.reduceLE, Int.reduceGT, Int.reduceGE]
  refine finI_of (XFin.frz e (T := 32) (rows := [[.sl ((c.ops.flatten.take 60).map Opn.row)]]) (keep := 0) (by simp (disch := omega) only [Mem.set_ne, Mem.set_eq]) (XFin.wk (XFin.le (M' := M) (fun k bk hk => ?_) ⟨?_, rfl⟩)))
  · have := lt_of_bnd ha hk
    simp (disch := omega) only [Mem.set_ne, hk]
  · simp [frzA, frz1, frzL, wkT, wkA, wkL]
theorem min_60 (n : Nat) : (if (60 : Int) < (n : Int) then (60 : Int) else (n : Int)) = ((min 60 n : Nat) : Int) := by
  split <;> omega
theorem soloR_spec (s : Scr) (hs : SmS s) (M : Mem) : XCalls Go.Proofs.Try.prog 28 [.agg s.row] M fun r M' => r = .agg (soloS s).row ∧ M' = M := by
  refine xcalls_intro (rs := [.cell 2 28]) Go.Proofs.Try.func28 rfl (by kernel_rfl) rfl rfl (by kernel_rfl) (by simp) ?_
  have hT := thrN_le s
  have htot := rowsN_tot s (thrN s)
  have hops : (cleanS s).ops = rowsN s (thrN s) := rfl
  have hlen : (rowsN s (thrN s)).length = thrN s := by simp [rowsN]
  simp -implicitDefEqProofs (maxSteps := 1000000) (disch := omega) only [↓xsP, ↓vc_seq, xsQ, xsT, xsR, xsD, ↓reduceIte, reduceCtorEq, eq_self, ne_eq, imp_self, forall_const, Nat.reduceEqDiff, Nat.reduceAdd, Nat.reduceSub, Nat.reduceMul, Nat.reduceLT, Nat.reduceLeDiff, Nat.reduceBEq, Nat.reduceDiv, Nat.reduceMod, Int.reduceToNat, Int.reduceNeg, Int.reduceAdd, Int.reduceSub, Int.reduceMul, Int.reduceEq, Int.reduceNe, Int.reduceLT, Int.reduceLE, Int.reduceGT, Int.reduceGE]
  refine newI_intro fun a ha => ?_
  simp -implicitDefEqProofs (maxSteps := 1000000) (disch := omega) only [↓xsP, ↓vc_seq, xsQ, xsT, xsR, xsD, ↓reduceIte, reduceCtorEq, eq_self, ne_eq, imp_self, forall_const, Nat.reduceEqDiff, Nat.reduceAdd, Nat.reduceSub, Nat.reduceMul, Nat.reduceLT, Nat.reduceLeDiff, Nat.reduceBEq, Nat.reduceDiv, Nat.reduceMod, Int.reduceToNat, Int.reduceNeg, Int.reduceAdd, Int.reduceSub, Int.reduceMul, Int.reduceEq, Int.reduceNe, Int.reduceLT, Int.reduceLE, Int.reduceGT, Int.reduceGE]
  refine newI_intro fun b hb => ?_
  obtain ⟨hab, hb'⟩ := bnd_new hb
  simp -implicitDefEqProofs (maxSteps := 1000000) (disch := omega) only [↓xsP, ↓vc_seq, xsQ, xsT, xsR, xsD, ↓reduceIte, reduceCtorEq, eq_self, ne_eq, imp_self, forall_const, Nat.reduceEqDiff, Nat.reduceAdd, Nat.reduceSub, Nat.reduceMul, Nat.reduceLT, Nat.reduceLeDiff, Nat.reduceBEq, Nat.reduceDiv, Nat.reduceMod, Int.reduceToNat, Int.reduceNeg, Int.reduceAdd, Int.reduceSub, Int.reduceMul, Int.reduceEq, Int.reduceNe, Int.reduceLT, Int.reduceLE, Int.reduceGT, Int.reduceGE]
  refine call_of (cleanR_spec s hs _) ?_
  have hsol : (soloS s).row = [.int .i64 1, .int .i64 (cleanS s).cells, .int .i64 (cleanS s).pol.high, .int .i64 (cleanS s).pol.low, .int .i64 (cleanS s).pol.cont, .int .i64 (cleanS s).pol.unc, .int .i64 (cleanS s).pol.multi, .sl ((cleanS s).beg.map Pr.row), .sl [[.sl (((cleanS s).ops.flatten.take 60).map Opn.row)]], .sl []] := rfl
  rw [hsol]
  rw [← hops] at htot hlen
  generalize cleanS s = c at htot hlen ⊢
  simp -implicitDefEqProofs (maxSteps := 1000000) (disch := omega) only [↓xsP, ↓vc_seq, xsQ, xsT, xsR, xsD, ↓reduceIte, reduceCtorEq, eq_self, ne_eq, imp_self, forall_const, Nat.reduceEqDiff, Nat.reduceAdd, Nat.reduceSub, Nat.reduceMul, Nat.reduceLT, Nat.reduceLeDiff, Nat.reduceBEq, Nat.reduceDiv, Nat.reduceMod, Int.reduceToNat, Int.reduceNeg, Int.reduceAdd, Int.reduceSub, Int.reduceMul, Int.reduceEq, Int.reduceNe, Int.reduceLT, Int.reduceLE, Int.reduceGT, Int.reduceGE]
  refine newI_intro fun d hd => ?_
  obtain ⟨hbd, hd'⟩ := bnd_new hd
  obtain ⟨had, hd''⟩ := bnd_new hd'
  have hN3 : ∀ N : Mem, ((M.set a (.cells 28 [s.row] 0)).set b (.cells 28 [[.int .i64 0, .int .i64 0, .int .i64 0, .int .i64 0, .int .i64 0, .int .i64 0, .int .i64 0, .nils, .nils, .nils]] 0)).set d (.cells 28 [c.row] 0) = N → N d = some (.cells 28 [c.row] 0) ∧ N b = some (.cells 28 [[.int .i64 0, .int .i64 0, .int .i64 0, .int .i64 0, .int .i64 0, .int .i64 0, .int .i64 0, .nils, .nils, .nils]] 0) ∧ ∀ k bk, M k = some bk → k < a ∧ N k = some bk := by
    rintro N rfl
    refine ⟨Mem.set_eq _ _ _, by simp (disch := omega) only [Mem.set_ne, Mem.set_eq], fun k bk hk => ?_⟩
    have := lt_of_bnd ha hk
    exact ⟨this, by simp (disch := omega) only [Mem.set_ne, hk]⟩
  rw [row_scr, row_scr] at hN3
  simp -implicitDefEqProofs (maxSteps := 1000000) (disch := omega) only [↓xsP, ↓vc_seq, xsQ, xsT, xsR, xsD, ↓reduceIte, reduceCtorEq, eq_self, ne_eq, imp_self, forall_const, Nat.reduceEqDiff, Nat.reduceAdd, Nat.reduceSub, Nat.reduceMul, Nat.reduceLT, Nat.reduceLeDiff, Nat.reduceBEq, Nat.reduceDiv, Nat.reduceMod, Int.reduceToNat, Int.reduceNeg, Int.reduceAdd, Int.reduceSub, Int.reduceMul, Int.reduceEq, Int.reduceNe, Int.reduceLT, Int.reduceLE, Int.reduceGT, Int.reduceGE]
  generalize ((M.set a _).set b _).set d _ = N at hN3 ⊢
  obtain ⟨hNd, hNb, hNM⟩ := hN3 N rfl
  clear hN3
  refine loopI_of (xloop (by kernel_rfl) (fun k fr M2 => ∃ (i : Nat) (x : Lf), i ≤ c.ops.length ∧ k = c.ops.length - i ∧ fr 2 = .l (.ptr b 0 0) ∧ fr 3 = .l (.ptr d 0 0) ∧ fr 4 = .l x ∧ fr 10 = .l (.sl (c.ops.map oprow)) ∧ fr 11 = .l (.int .i64 c.ops.length) ∧ fr 12 = .l (.int .i64 i) ∧ OutR 34 N x M2 ((c.ops.take i).flatten.map Opn.row)) c.ops.length ?_ ?_)
  · exact ⟨0, .nils, Nat.zero_le _, rfl, by simp -implicitDefEqProofs (maxSteps := 1000000) (disch := omega) only [↓xsP, ↓vc_seq, xsQ, xsT, xsR, xsD, ↓reduceIte, reduceCtorEq, eq_self, ne_eq, imp_self, forall_const, Nat.reduceEqDiff, Nat.reduceAdd, Nat.reduceSub, Nat.reduceMul, Nat.reduceLT, Nat.reduceLeDiff, Nat.reduceBEq, Nat.reduceDiv, Nat.reduceMod, Int.reduceToNat, Int.reduceNeg, Int.reduceAdd, Int.reduceSub, Int.reduceMul, Int.reduceEq, Int.reduceNe, Int.reduceLT, Int.reduceLE, Int.reduceGT, Int.reduceGE], by simp -implicitDefEqProofs (maxSteps := 1000000) (disch := omega) only [↓xsP, ↓vc_seq, xsQ, xsT, xsR, xsD, ↓reduceIte, reduceCtorEq, eq_self, ne_eq, imp_self, forall_const, Nat.reduceEqDiff, Nat.reduceAdd, Nat.reduceSub, Nat.reduceMul, Nat.reduceLT, Nat.reduceLeDiff, Nat.reduceBEq, Nat.reduceDiv, Nat.reduceMod, Int.reduceToNat, Int.reduceNeg, Int.reduceAdd, Int.reduceSub, Int.reduceMul, Int.reduceEq, Int.reduceNe, Int.reduceLT, Int.reduceLE, Int.reduceGT, Int.reduceGE], by simp -implicitDefEqProofs (maxSteps := 1000000) (disch := omega) only [↓xsP, ↓vc_seq, xsQ, xsT, xsR, xsD, ↓reduceIte, reduceCtorEq, eq_self, ne_eq, imp_self, forall_const, Nat.reduceEqDiff, Nat.reduceAdd, Nat.reduceSub, Nat.reduceMul, Nat.reduceLT, Nat.reduceLeDiff, Nat.reduceBEq, Nat.reduceDiv, Nat.reduceMod, Int.reduceToNat, Int.reduceNeg, Int.reduceAdd, Int.reduceSub, Int.reduceMul, Int.reduceEq, Int.reduceNe, Int.reduceLT, Int.reduceLE, Int.reduceGT, Int.reduceGE], by simp -implicitDefEqProofs (maxSteps := 1000000) (disch := omega) only [↓xsP, ↓vc_seq, xsQ, xsT, xsR, xsD, ↓reduceIte, reduceCtorEq, eq_self, ne_eq, imp_self, forall_const, Nat.reduceEqDiff, Nat.reduceAdd, Nat.reduceSub, Nat.reduceMul, Nat.reduceLT, Nat.reduceLeDiff, Nat.reduceBEq, Nat.reduceDiv, Nat.reduceMod, Int.reduceToNat, Int.reduceNeg, Int.reduceAdd, Int.reduceSub, Int.reduceMul, Int.reduceEq, Int.reduceNe, Int.reduceLT, Int.reduceLE, Int.reduceGT, Int.reduceGE], by simp -implicitDefEqProofs (maxSteps := 1000000) (disch := omega) only [↓xsP, ↓vc_seq, xsQ, xsT, xsR, xsD, ↓reduceIte, reduceCtorEq, eq_self, ne_eq, imp_self, forall_const, Nat.reduceEqDiff, Nat.reduceAdd, Nat.reduceSub, Nat.reduceMul, Nat.reduceLT, Nat.reduceLeDiff, Nat.reduceBEq, Nat.reduceDiv, Nat.reduceMod, Int.reduceToNat, Int.reduceNeg, Int.reduceAdd, Int.reduceSub, Int.reduceMul, Int.reduceEq, Int.reduceNe, Int.reduceLT, Int.reduceLE, Int.reduceGT, Int.reduceGE], by simp -implicitDefEqProofs (maxSteps := 1000000) (disch := omega) only [↓xsP, ↓vc_seq, xsQ, xsT, xsR, xsD, ↓reduceIte, reduceCtorEq, eq_self, ne_eq, imp_self, forall_const, Nat.reduceEqDiff, Nat.reduceAdd, Nat.reduceSub, Nat.reduceMul, Nat.reduceLT, Nat.reduceLeDiff, Nat.reduceBEq, Nat.reduceDiv, Nat.reduceMod, Int.reduceToNat, Int.reduceNeg, Int.reduceAdd, Int.reduceSub, Int.reduceMul, Int.reduceEq, Int.reduceNe, Int.reduceLT, Int.reduceLE, Int.reduceGT, Int.reduceGE, Int.cast_ofNat_Int], OutR.nil _ _⟩
  · rintro k fr M2 ⟨i, x, hi, rfl, g2, g3, g4, g10, g11, g12, hO⟩
    simp -implicitDefEqProofs (maxSteps := 1000000) (disch := omega) only [↓xsP, ↓vc_seq, xsQ, xsT, xsR, xsD, ↓reduceIte, reduceCtorEq, eq_self, ne_eq, imp_self, forall_const, Nat.reduceEqDiff, Nat.reduceAdd, Nat.reduceSub, Nat.reduceMul, Nat.reduceLT, Nat.reduceLeDiff, Nat.reduceBEq, Nat.reduceDiv, Nat.reduceMod, Int.reduceToNat, Int.reduceNeg, Int.reduceAdd, Int.reduceSub, Int.reduceMul, Int.reduceEq, Int.reduceNe, Int.reduceLT, Int.reduceLE, Int.reduceGT, Int.reduceGE, g2, g3, g4, g10, g11, g12]
    refine condI_prop (fun hlt => ?_) (fun hlt => ?_)
    · have hi' : i < c.ops.length := by omega
      have ht := totO2_take hi'
      have htl := totO2_le c.ops (i + 1)
      rw [ht, List.length_append] at htl
      obtain ⟨l, hl⟩ : ∃ l, c.ops.getD i default = l := ⟨_, rfl⟩
      rw [hl] at ht htl
      simp -implicitDefEqProofs (maxSteps := 1000000) (disch := omega) only [↓xsP, ↓vc_seq, xsQ, xsT, xsR, xsD, ↓reduceIte, reduceCtorEq, eq_self, ne_eq, imp_self, forall_const, Nat.reduceEqDiff, Nat.reduceAdd, Nat.reduceSub, Nat.reduceMul, Nat.reduceLT, Nat.reduceLeDiff, Nat.reduceBEq, Nat.reduceDiv, Nat.reduceMod, Int.reduceToNat, Int.reduceNeg, Int.reduceAdd, Int.reduceSub, Int.reduceMul, Int.reduceEq, Int.reduceNe, Int.reduceLT, Int.reduceLE, Int.reduceGT, Int.reduceGE, g2, g3, g4, g10, g11, g12, hl]
      refine app_outS ti_32 rfl ti_34 (by kernel_rfl) (by decide) (by decide) (rows4 l) hO (by rw [List.length_map, List.length_map]; omega) fun v' N2 M3 hO3 hle3 => ?_
      simp -implicitDefEqProofs (maxSteps := 1000000) (disch := omega) only [↓xsP, ↓vc_seq, xsQ, xsT, xsR, xsD, ↓reduceIte, reduceCtorEq, eq_self, ne_eq, imp_self, forall_const, Nat.reduceEqDiff, Nat.reduceAdd, Nat.reduceSub, Nat.reduceMul, Nat.reduceLT, Nat.reduceLeDiff, Nat.reduceBEq, Nat.reduceDiv, Nat.reduceMod, Int.reduceToNat, Int.reduceNeg, Int.reduceAdd, Int.reduceSub, Int.reduceMul, Int.reduceEq, Int.reduceNe, Int.reduceLT, Int.reduceLE, Int.reduceGT, Int.reduceGE, g2, g3, g4, g10, g11, g12]
      exact ⟨c.ops.length - (i + 1), M3, by omega, hle3, i + 1, v', by omega, rfl, rfl, rfl, by rw [ht, List.map_append]; exact hO3⟩
    · have hil : i = c.ops.length := by omega
      subst hil
      rw [List.take_length] at hO
      simp -implicitDefEqProofs (maxSteps := 1000000) (disch := omega) only [↓xsP, ↓vc_seq, xsQ, xsT, xsR, xsD, ↓reduceIte, reduceCtorEq, eq_self, ne_eq, imp_self, forall_const, Nat.reduceEqDiff, Nat.reduceAdd, Nat.reduceSub, Nat.reduceMul, Nat.reduceLT, Nat.reduceLeDiff, Nat.reduceBEq, Nat.reduceDiv, Nat.reduceMod, Int.reduceToNat, Int.reduceNeg, Int.reduceAdd, Int.reduceSub, Int.reduceMul, Int.reduceEq, Int.reduceNe, Int.reduceLT, Int.reduceLE, Int.reduceGT, Int.reduceGE, g2, g3, g4, g10, g11, g12]
      have hM2d := hO.base _ _ hNd
      have hM2b := hO.base _ _ hNb
      rcases hO with ⟨hr0, rfl, hMM⟩ | ⟨idR, hidR, rfl, hMM⟩
      · refine xwrite (fun n0 => [ (7, d), (9, d), (11, d)]) [7, 9, 11] [5] [[7], [7], [7], [7], [7], [7], [5], [5], [], [], [], []] (by kernel_rfl) (by kernel_rfl) (by kernel_rfl) (by kernel_rfl) (fun n0 hn0 => ⟨rfl, ?_, ?_⟩)
        · exact TOk_cons (.inl (lt_of_bnd hn0 hM2d)) (TOk_cons (.inl (lt_of_bnd hn0 hM2d)) (TOk_cons (.inl (lt_of_bnd hn0 hM2d)) (TOk_nil _ _)))
        · have hdn := lt_of_bnd hn0 hM2d
          have hbn := lt_of_bnd hn0 hM2b
          simp -implicitDefEqProofs (maxSteps := 1000000) (disch := omega) only [↓xsP, ↓vc_seq, xsQ, xsT, xsR, xsD, ↓reduceIte, reduceCtorEq, eq_self, ne_eq, imp_self, forall_const, Nat.reduceEqDiff, Nat.reduceAdd, Nat.reduceSub, Nat.reduceMul, Nat.reduceLT, Nat.reduceLeDiff, Nat.reduceBEq, Nat.reduceDiv, Nat.reduceMod, Int.reduceToNat, Int.reduceNeg, Int.reduceAdd, Int.reduceSub, Int.reduceMul, Int.reduceEq, Int.reduceNe, Int.reduceLT, Int.reduceLE, Int.reduceGT, Int.reduceGE, g2, g3, g4, hM2d, hM2b, Int.cast_ofNat_Int]
          refine ⟨.inl (by decide), ?_⟩
          have hf0 : c.ops.flatten = [] := by simpa using hr0
          rw [hf0]
          refine finI_gs (GStep.wk (out := n0 + 5) (To := 32) (rowso := [[.nils]]) (keepo := 0) (by simp (disch := omega) only [Mem.set_ne, Mem.set_eq])) ?_
          refine finI_of (XFin.frz (n0 + 5) (Mem.set_eq _ _ _) (XFin.wk (XFin.le (M' := M) (fun k bk hk => ?_) ⟨?_, rfl⟩)))
          · obtain ⟨h1, h2⟩ := hNM k bk hk
            rw [← hMM] at h2
            have := lt_of_bnd hn0 h2
            simp (disch := omega) only [Mem.set_ne, h2]
          · simp [frzA, frz1, frzL, wkT, wkA, wkL]
      · have hPP : M2 idR = some (.cells 34 (c.ops.flatten.map Opn.row) 0) := by rw [hMM]; exact Mem.set_eq _ _ _
        have hRd := lt_of_bnd hidR hNd
        have hRb := lt_of_bnd hidR hNb
        refine xwrite (fun n0 => [ (7, d), (9, d), (11, d)]) [7, 9, 11] [5] [[7], [7], [7], [7], [7], [7], [5], [5], [], [], [], []] (by kernel_rfl) (by kernel_rfl) (by kernel_rfl) (by kernel_rfl) (fun n0 hn0 => ⟨rfl, ?_, ?_⟩)
        · exact TOk_cons (.inl (lt_of_bnd hn0 hM2d)) (TOk_cons (.inl (lt_of_bnd hn0 hM2d)) (TOk_cons (.inl (lt_of_bnd hn0 hM2d)) (TOk_nil _ _)))
        · have hdn := lt_of_bnd hn0 hM2d
          have hbn := lt_of_bnd hn0 hM2b
          have hRn := lt_of_bnd hn0 hPP
          simp -implicitDefEqProofs (maxSteps := 1000000) (disch := omega) only [↓xsP, ↓vc_seq, xsQ, xsT, xsR, xsD, ↓reduceIte, reduceCtorEq, eq_self, ne_eq, imp_self, forall_const, Nat.reduceEqDiff, Nat.reduceAdd, Nat.reduceSub, Nat.reduceMul, Nat.reduceLT, Nat.reduceLeDiff, Nat.reduceBEq, Nat.reduceDiv, Nat.reduceMod, Int.reduceToNat, Int.reduceNeg, Int.reduceAdd, Int.reduceSub, Int.reduceMul, Int.reduceEq, Int.reduceNe, Int.reduceLT, Int.reduceLE, Int.reduceGT, Int.reduceGE, g2, g3, g4, hM2d, hM2b, Int.cast_ofNat_Int]
          rw [min_60]
          have h1 : (min 60 c.ops.flatten.length ≤ c.ops.flatten.length) = True := eq_true (by omega)
          have h3 : (0 ≤ ((min 60 c.ops.flatten.length : Nat) : Int)) = True := eq_true (by omega)
          simp -implicitDefEqProofs (maxSteps := 1000000) (disch := omega) only [↓xsP, ↓vc_seq, xsQ, xsT, xsR, xsD, ↓reduceIte, reduceCtorEq, eq_self, ne_eq, imp_self, forall_const, Nat.reduceEqDiff, Nat.reduceAdd, Nat.reduceSub, Nat.reduceMul, Nat.reduceLT, Nat.reduceLeDiff, Nat.reduceBEq, Nat.reduceDiv, Nat.reduceMod, Int.reduceToNat, Int.reduceNeg, Int.reduceAdd, Int.reduceSub, Int.reduceMul, Int.reduceEq, Int.reduceNe, Int.reduceLT, Int.reduceLE, Int.reduceGT, Int.reduceGE, g2, g3, g4, hM2d, hM2b, h1, h3]
          refine ⟨.inl (by decide), ?_⟩
          have hg := GStep.frz_in (M := ((M2.set (n0 + 5) (.cells 32 [[.ms idR 0 (min 60 c.ops.flatten.length)]] 0)).set d (.cells 28 [[.int .i64 1, .int .i64 c.cells, .int .i64 c.pol.high, .int .i64 c.pol.low, .int .i64 c.pol.cont, .int .i64 c.pol.unc, .int .i64 c.pol.multi, .sl (c.beg.map Pr.row), .ms (n0 + 5) 0 1, .nils]] 0)).set b (.cells 28 [[.int .i64 1, .int .i64 c.cells, .int .i64 c.pol.high, .int .i64 c.pol.low, .int .i64 c.pol.cont, .int .i64 c.pol.unc, .int .i64 c.pol.multi, .sl (c.beg.map Pr.row), .ms (n0 + 5) 0 1, .nils]] 0))
            (id := idR) (out := n0 + 5) (T := 34) (keep := 0) (To := 32) (keepo := 0) (rows := c.ops.flatten.map Opn.row) (rowso := [[.ms idR 0 (min 60 c.ops.flatten.length)]]) (by simp (disch := omega) only [Mem.set_ne, hPP]) (by simp (disch := omega) only [Mem.set_ne, Mem.set_eq]) (by omega)
          refine finI_gs hg ?_
          refine finI_of (XFin.frz (n0 + 5) (Mem.set_eq _ _ _) (XFin.wk (XFin.le (M' := M) (fun k bk hk => ?_) ⟨?_, rfl⟩)))
          · obtain ⟨h1, h2⟩ := hNM k bk hk
            have h3 : M2 k = some bk := by rw [hMM, Mem.set_ne _ _ _ _ (by omega)]; exact h2
            have := lt_of_bnd hn0 h3
            simp (disch := omega) only [Mem.set_ne, h3]
          · have hml : min 60 c.ops.flatten.length ≤ c.ops.flatten.length := by omega
            generalize c.ops.flatten = F at hml ⊢
            have e1 : List.take (min 60 F.length) (F.map Opn.row) = (F.take 60).map Opn.row := by
              rw [List.map_take, ← List.length_map (f := Opn.row), ← List.take_take, List.take_length]
            simp [frzA, frz1, frzL, wkT, wkA, wkL, hml, e1]
end Go.X

/- Plain laws of scripts. -/

set_option linter.unusedVariables false
set_option maxRecDepth 100000
namespace Go.X

theorem lastV_none {k : Int} : ∀ {l : List Pr} {o : Option Int}, (∀ p ∈ l, p.key ≠ k) → lastV k o l = o
  | [], o, _ => rfl
  | p :: r, o, h => by
    rw [lastV, List.foldl_cons, if_neg (fun e => h p (by simp) e.symm)]
    exact lastV_none (l := r) fun q hq => h q (by simp [hq])
theorem lastV_asc {k : Int} : ∀ {l : List Pr} {o : Option Int}, Asc l → lastV k o l = (match look l k with | some v => some v | none => o)
  | [], o, _ => rfl
  | p :: r, o, h => by
    have h2 := List.pairwise_cons.1 h
    rw [look]
    by_cases e : p.key = k
    · rw [if_pos e, lastV, List.foldl_cons, if_pos e.symm]
      refine lastV_none (l := r) fun q hq => ?_
      have := h2.1 q hq
      omega
    · rw [if_neg e, lastV, List.foldl_cons, if_neg (fun h => e h.symm)]
      exact lastV_asc (l := r) h2.2
theorem putL_id {l : List Pr} (h : Asc l) : putL l = l := look_ext (putL_asc l) h fun k => by
  rw [putL_look, lastV_asc h]
  cases look l k <;> rfl
theorem asc_take {l : List Pr} (h : Asc l) (n : Nat) : Asc (l.take n) := List.Pairwise.sublist (List.take_sublist n l) h
theorem clampP_idem (p : Pol) : clampP (clampP p) = clampP p := by
  obtain ⟨a, b, c, d, e⟩ := p
  simp only [clampP, Pol.mk.injEq]
  omega
theorem cleanRow_ok (l : List Opn) : okRow (cleanRow l) = true := by
  rw [okRow, decide_eq_true (cleanRow_len l), Bool.true_and, List.all_eq_true]
  intro x hx
  have := List.mem_of_mem_take hx
  exact (List.mem_filter.1 this).2
theorem okRow_id {l : List Opn} (h : okRow l = true) : cleanRow l = l := by
  rw [okRow, Bool.and_eq_true] at h
  have h1 := of_decide_eq_true h.1
  have h2 := List.all_eq_true.1 h.2
  rw [cleanRow, List.filter_eq_self.2 h2, List.take_of_length_le h1]
theorem rowsN_ok (s : Scr) (n : Nat) : ∀ l ∈ rowsN s n, okRow l = true := fun l hl => by
  obtain ⟨t, _, rfl⟩ := List.mem_map.1 hl
  exact cleanRow_ok _
theorem rowsN_len (s : Scr) (n : Nat) : (rowsN s n).length = n := by simp [rowsN]
theorem modI_bd (n m : Int) (h : 0 < m) : 0 ≤ modI n m ∧ modI n m < m := by
  rw [modI_if n m h]
  have h1 := Int.tmod_lt_of_pos n h
  have h2 := Int.lt_tmod_of_pos n h
  split <;> omega
theorem modI_id {n m : Int} (h0 : 0 ≤ n) (h : n < m) : modI n m = n := by
  rw [modI_if n m (by omega), Int.tmod_eq_emod_of_nonneg h0, Int.emod_eq_of_lt h0 h, if_neg (by omega)]
theorem clean_ok (s : Scr) : OkS (cleanS s) := by
  have hT := thrN_le s
  refine ⟨?_, ?_, ?_, ?_, clampP_idem _, ?_, (rises_asc _).2 (asc_take (putL_asc _) _), ?_, ?_, rowsN_ok s _, fun p hp => ?_⟩
  · show (1 : Int) ≤ (thrN s : Nat); omega
  · show ((thrN s : Nat) : Int) ≤ 6; omega
  · show (0 : Int) ≤ min (max s.cells 0) 60000; omega
  · show min (max s.cells 0) 60000 ≤ (60000 : Int); omega
  · show ((putL s.beg).take 200).length ≤ 200; rw [List.length_take]; omega
  · show ((rowsN s (thrN s)).length : Int) = (thrN s : Nat); rw [rowsN_len]
  · show (List.map _ (s.picks.take 100000)).length ≤ 100000; rw [List.length_map, List.length_take]; omega
  · obtain ⟨n, _, rfl⟩ := List.mem_map.1 hp
    exact modI_bd _ _ (by omega)
theorem rowsN_id (s : Scr) (h : ∀ l ∈ s.ops, okRow l = true) : rowsN s s.ops.length = s.ops := by
  refine List.ext_getElem (by simp [rowsN]) fun i h1 h2 => ?_
  have : s.ops.getD i [] = s.ops[i] := by rw [List.getD_eq_getElem?_getD, List.getElem?_eq_getElem h2]; rfl
  simp only [rowsN, List.getElem_map, List.getElem_range]
  rw [this]
  exact okRow_id (h _ (List.getElem_mem h2))
theorem clean_id {s : Scr} (h : OkS s) : cleanS s = s := by
  obtain ⟨h1, h2, h3, h4, h5, h6, h7, h8, h9, h10, h11⟩ := h
  have hT : thrN s = s.ops.length := by unfold thrN; omega
  obtain ⟨th, ce, po, be, op, pi⟩ := s
  simp only [cleanS, hT]
  have e1 := rowsN_id ⟨th, ce, po, be, op, pi⟩ h10
  simp only at h1 h2 h3 h4 h5 h6 h7 h8 h9 h10 h11 e1 ⊢
  rw [e1, h5, putL_id ((rises_asc _).1 h7), List.take_of_length_le h6, List.take_of_length_le h9]
  have e2 : pi.map (fun n => modI n op.length) = pi := by
    conv => rhs; rw [← List.map_id pi]
    exact List.map_congr_left fun n hn => by
      have := h11 n hn
      exact modI_id this.1 (by omega)
  rw [e2, h8]
  congr 1
  omega
theorem callsN_rows (s : Scr) (n : Nat) : callsN (rowsN s n) ≤ 60 * n := by
  induction n with
  | zero => simp [rowsN, callsN]
  | succ n ih =>
    rw [rowsN_succ, callsN, List.map_append, List.sum_append]
    have := cleanRow_len (s.ops.getD n [])
    simp only [List.map_cons, List.map_nil, List.sum_cons, List.sum_nil]
    rw [callsN] at ih
    omega
theorem cleanRow_le (l : List Opn) : (cleanRow l).length ≤ l.length := by
  rw [cleanRow, List.length_take]
  have := List.length_filter_le mayOpB l
  omega
theorem callsN_rows_le (s : Scr) (n : Nat) : callsN (rowsN s n) ≤ callsN (s.ops.take n) := by
  induction n with
  | zero => simp [rowsN, callsN]
  | succ n ih =>
    rw [rowsN_succ, callsN, List.map_append, List.sum_append]
    have h1 := cleanRow_le (s.ops.getD n [])
    simp only [List.map_cons, List.map_nil, List.sum_cons, List.sum_nil]
    rw [callsN] at ih
    by_cases hn : n < s.ops.length
    · rw [callsN_take s.ops hn]
      have : s.ops.getD n [] = s.ops.getD n default := rfl
      rw [this] at h1 ⊢
      omega
    · have h0 : s.ops.getD n [] = [] := by
        rw [List.getD_eq_getElem?_getD, List.getElem?_eq_none (by omega)]
        rfl
      rw [h0] at h1 ⊢
      rw [List.take_of_length_le (by omega)] at ih ⊢
      simp only [List.length_nil] at h1
      omega
theorem callsN_clean_le (s : Scr) : callsN (cleanS s).ops ≤ callsN s.ops := by
  have h1 := callsN_rows_le s (thrN s)
  have h2 := callsN_le s.ops (thrN s)
  show callsN (rowsN s (thrN s)) ≤ _
  omega
theorem callsN_flat (L : List (List Opn)) : callsN L = L.flatten.length := by
  induction L with
  | nil => rfl
  | cons l r ih =>
    rw [callsN] at ih
    simp only [callsN, List.map_cons, List.sum_cons, List.flatten_cons, List.length_append]
    omega
theorem callsN_solo (s : Scr) : callsN (soloS s).ops = min (callsN (cleanS s).ops) 60 := by
  show callsN [(cleanS s).ops.flatten.take 60] = _
  rw [callsN_flat (cleanS s).ops, callsN]
  simp only [List.map_cons, List.map_nil, List.sum_cons, List.sum_nil, List.length_take]
  omega
theorem solo_ok (s : Scr) : OkS (soloS s) := by
  obtain ⟨h1, h2, h3, h4, h5, h6, h7, h8, h9, h10, h11⟩ := clean_ok s
  refine ⟨?_, ?_, h3, h4, h5, h6, h7, rfl, ?_, fun l hl => ?_, fun p hp => ?_⟩
  · show (1 : Int) ≤ 1; omega
  · show (1 : Int) ≤ 6; omega
  · show ([] : List Int).length ≤ 100000; simp
  · have : l = (cleanS s).ops.flatten.take 60 := by simpa [soloS] using hl
    subst this
    rw [okRow, decide_eq_true (by rw [List.length_take]; omega), Bool.true_and, List.all_eq_true]
    intro x hx
    obtain ⟨r, hr, hxr⟩ := List.mem_flatten.1 (List.mem_of_mem_take hx)
    have := h10 r hr
    rw [okRow, Bool.and_eq_true] at this
    exact List.all_eq_true.1 this.2 x hxr
  · cases hp
theorem sm_ok {s : Scr} (h : OkS s) : SmS s := by
  obtain ⟨h1, h2, h3, h4, h5, h6, h7, h8, h9, h10, h11⟩ := h
  have hrow : ∀ l ∈ s.ops, l.length ≤ 60 := fun l hl => by
    have := h10 l hl
    rw [okRow, Bool.and_eq_true] at this
    exact of_decide_eq_true this.1
  have hs : ∀ L : List (List Opn), (∀ l ∈ L, l.length ≤ 60) → (L.map List.length).sum ≤ 60 * L.length := by
    intro L
    induction L with
    | nil => intro _; simp
    | cons l r ih =>
      intro h
      have h1 := h l (by simp)
      have h2 := ih fun x hx => h x (by simp [hx])
      simp only [List.map_cons, List.sum_cons, List.length_cons]
      omega
  have hss := hs s.ops hrow
  exact ⟨by omega, by omega, fun l hl => by have := hrow l hl; omega, by omega, by omega⟩
end Go.X

/- The script that every program must know to clean. -/

set_option linter.unusedVariables false
set_option linter.unusedSimpArgs false
set_option maxHeartbeats 20000000
set_option maxRecDepth 100000
namespace Go.X
open Go.Proofs.Try (prog)

def aw22 : Scr := ⟨0, 0, ⟨0, 0, 0, 0, 0⟩, [], [[⟨99, 0, 0, 0⟩, ⟨7, 0, 0, 0⟩]], [-1, 5]⟩
theorem aw22_sm : SmS aw22 := ⟨by decide, by decide, by decide, by decide, by decide⟩
theorem aw22_clean : (cleanS aw22).threads = 1 ∧ (cleanS aw22).ops = [[⟨7, 0, 0, 0⟩]] ∧ (cleanS aw22).picks = [0, 0] ∧ (cleanS aw22).pol.high = 1 := by
  refine ⟨rfl, ?_, ?_, ?_⟩
  · show rowsN aw22 1 = _
    decide
  · show (aw22.picks.take 100000).map (fun n => modI n ((1 : Nat) : Int)) = _
    rfl
  · decide
theorem awake22_spec (M : Mem) : XCalls Go.Proofs.Try.prog 12 [] M fun r M' => r = .l (.bool true) ∧ M' = M := by
  refine xcalls_intro (rs := [.tmp 0]) Go.Proofs.Try.func12 rfl (by kernel_rfl) rfl rfl (by kernel_rfl) (by simp) ?_
  simp -implicitDefEqProofs (maxSteps := 1000000) (disch := omega) only [↓xsP, ↓vc_seq, xsQ, xsT, xsR, xsD, ↓reduceIte, reduceCtorEq, eq_self, ne_eq, imp_self, forall_const, Nat.reduceEqDiff, Nat.reduceAdd, Nat.reduceSub, Nat.reduceMul, Nat.reduceLT, Nat.reduceLeDiff, Nat.reduceBEq, Nat.reduceDiv, Nat.reduceMod, Int.reduceToNat, Int.reduceNeg, Int.reduceAdd, Int.reduceSub, Int.reduceMul, Int.reduceEq, Int.reduceNe, Int.reduceLT, Int.reduceLE, Int.reduceGT, Int.reduceGE]
  refine newI_intro fun p4 hp4 => ?_
  simp -implicitDefEqProofs (maxSteps := 1000000) (disch := omega) only [↓xsP, ↓vc_seq, xsQ, xsT, xsR, xsD, ↓reduceIte, reduceCtorEq, eq_self, ne_eq, imp_self, forall_const, Nat.reduceEqDiff, Nat.reduceAdd, Nat.reduceSub, Nat.reduceMul, Nat.reduceLT, Nat.reduceLeDiff, Nat.reduceBEq, Nat.reduceDiv, Nat.reduceMod, Int.reduceToNat, Int.reduceNeg, Int.reduceAdd, Int.reduceSub, Int.reduceMul, Int.reduceEq, Int.reduceNe, Int.reduceLT, Int.reduceLE, Int.reduceGT, Int.reduceGE]
  refine newI_intro fun p5 hp5 => ?_
  obtain ⟨h45, hp5'⟩ := bnd_new hp5
  simp -implicitDefEqProofs (maxSteps := 1000000) (disch := omega) only [↓xsP, ↓vc_seq, xsQ, xsT, xsR, xsD, ↓reduceIte, reduceCtorEq, eq_self, ne_eq, imp_self, forall_const, Nat.reduceEqDiff, Nat.reduceAdd, Nat.reduceSub, Nat.reduceMul, Nat.reduceLT, Nat.reduceLeDiff, Nat.reduceBEq, Nat.reduceDiv, Nat.reduceMod, Int.reduceToNat, Int.reduceNeg, Int.reduceAdd, Int.reduceSub, Int.reduceMul, Int.reduceEq, Int.reduceNe, Int.reduceLT, Int.reduceLE, Int.reduceGT, Int.reduceGE]
  refine newI_intro fun p6 hp6 => ?_
  obtain ⟨h56, hp6'⟩ := bnd_new hp6
  obtain ⟨h46, hp6''⟩ := bnd_new hp6'
  simp -implicitDefEqProofs (maxSteps := 1000000) (disch := omega) only [↓xsP, ↓vc_seq, xsQ, xsT, xsR, xsD, ↓reduceIte, reduceCtorEq, eq_self, ne_eq, imp_self, forall_const, Nat.reduceEqDiff, Nat.reduceAdd, Nat.reduceSub, Nat.reduceMul, Nat.reduceLT, Nat.reduceLeDiff, Nat.reduceBEq, Nat.reduceDiv, Nat.reduceMod, Int.reduceToNat, Int.reduceNeg, Int.reduceAdd, Int.reduceSub, Int.reduceMul, Int.reduceEq, Int.reduceNe, Int.reduceLT, Int.reduceLE, Int.reduceGT, Int.reduceGE]
  have hg := GStep.frz_in (M := ((M.set p4 (.cells 34 [[.int .i64 99, .int .i64 0, .int .i64 0, .int .i64 0], [.int .i64 7, .int .i64 0, .int .i64 0, .int .i64 0]] 0)).set p5 (.cells 32 [[.ms p4 0 2]] 0)).set p6 (.cells 3 [[.int .i64 (-1)], [.int .i64 5]] 0))
    (id := p4) (out := p5) (T := 34) (keep := 0) (To := 32) (keepo := 0) (rows := [[.int .i64 99, .int .i64 0, .int .i64 0, .int .i64 0], [.int .i64 7, .int .i64 0, .int .i64 0, .int .i64 0]]) (rowso := [[.ms p4 0 2]]) (by simp (disch := omega) only [Mem.set_ne, Mem.set_eq]) (by simp (disch := omega) only [Mem.set_ne, Mem.set_eq]) (by omega)
  refine callI_gs hg ?_
  refine callI_of (XCalls.frz p5 (Mem.set_eq _ _ _) (XCalls.frz p6 (T := 3) (keep := 0) (rows := [[.int .i64 (-1)], [.int .i64 5]]) (by simp (disch := omega) only [Mem.set_ne, Mem.set_eq]) (XCalls.wk ?_)))
  have harg : (([AV.agg [.int .i64 0, .int .i64 0, .int .i64 0, .int .i64 0, .int .i64 0, .int .i64 0, .int .i64 0, .nils, .ms p5 0 1, .ms p6 0 2]].map (frzA p5 ([[.ms p4 0 2]].map fun r => r.map (frzL p4 [[.int .i64 99, .int .i64 0, .int .i64 0, .int .i64 0], [.int .i64 7, .int .i64 0, .int .i64 0, .int .i64 0]])))).map (frzA p6 [[.int .i64 (-1)], [.int .i64 5]])).map wkA = [.agg aw22.row] := by
    have hne : ¬ p6 = p5 := by omega
    simp [frzA, frz1, frzL, wkT, wkA, wkL, hne, aw22, Scr.row, oprow, irow, Opn.row]
  rw [harg]
  refine (clean_spec aw22 aw22_sm _).mono ?_
  rintro _ _ ⟨rfl, rfl⟩
  obtain ⟨c1, c2, c3, c4⟩ := aw22_clean
  have hok := clean_ok aw22
  have hsm := sm_ok hok
  generalize cleanS aw22 = c at c1 c2 c3 c4 hok hsm ⊢
  have e1 : (c.threads = 1) = True := eq_true c1
  have e4 : (c.pol.high = 1) = True := eq_true c4
  have d1 : c.ops.length = 1 := by rw [c2]; rfl
  have d2 : c.ops.getD 0 default = [⟨7, 0, 0, 0⟩] := by rw [c2]; rfl
  have d3 : c.picks.length = 2 := by rw [c3]; rfl
  have d4 : c.picks.getD 0 default = 0 := by rw [c3]; rfl
  have d5 : callsN c.ops = 1 := by rw [c2]; rfl
  simp -implicitDefEqProofs (maxSteps := 1000000) (disch := omega) only [↓xsP, ↓vc_seq, xsQ, xsT, xsR, xsD, ↓reduceIte, reduceCtorEq, eq_self, ne_eq, imp_self, forall_const, Nat.reduceEqDiff, Nat.reduceAdd, Nat.reduceSub, Nat.reduceMul, Nat.reduceLT, Nat.reduceLeDiff, Nat.reduceBEq, Nat.reduceDiv, Nat.reduceMod, Int.reduceToNat, Int.reduceNeg, Int.reduceAdd, Int.reduceSub, Int.reduceMul, Int.reduceEq, Int.reduceNe, Int.reduceLT, Int.reduceLE, Int.reduceGT, Int.reduceGE]
  refine newI_intro fun p1 hp1 => ?_
  simp -implicitDefEqProofs (maxSteps := 1000000) (disch := omega) only [↓xsP, ↓vc_seq, xsQ, xsT, xsR, xsD, ↓reduceIte, reduceCtorEq, eq_self, ne_eq, imp_self, forall_const, Nat.reduceEqDiff, Nat.reduceAdd, Nat.reduceSub, Nat.reduceMul, Nat.reduceLT, Nat.reduceLeDiff, Nat.reduceBEq, Nat.reduceDiv, Nat.reduceMod, Int.reduceToNat, Int.reduceNeg, Int.reduceAdd, Int.reduceSub, Int.reduceMul, Int.reduceEq, Int.reduceNe, Int.reduceLT, Int.reduceLE, Int.reduceGT, Int.reduceGE, e1, e4, d1, d2, d3, d4, Int.cast_ofNat_Int, Int.ofNat_one]
  refine call_of (scrMay_spec c hsm _) ?_
  rw [bof_true hok]
  simp -implicitDefEqProofs (maxSteps := 1000000) (disch := omega) only [↓xsP, ↓vc_seq, xsQ, xsT, xsR, xsD, ↓reduceIte, reduceCtorEq, eq_self, ne_eq, imp_self, forall_const, Nat.reduceEqDiff, Nat.reduceAdd, Nat.reduceSub, Nat.reduceMul, Nat.reduceLT, Nat.reduceLeDiff, Nat.reduceBEq, Nat.reduceDiv, Nat.reduceMod, Int.reduceToNat, Int.reduceNeg, Int.reduceAdd, Int.reduceSub, Int.reduceMul, Int.reduceEq, Int.reduceNe, Int.reduceLT, Int.reduceLE, Int.reduceGT, Int.reduceGE, e1, e4, d1, d2, d3, d4, Int.cast_ofNat_Int]
  refine call_of (calls_spec c hsm _) ?_
  rw [d5]
  simp -implicitDefEqProofs (maxSteps := 1000000) (disch := omega) only [↓xsP, ↓vc_seq, xsQ, xsT, xsR, xsD, ↓reduceIte, reduceCtorEq, eq_self, ne_eq, imp_self, forall_const, Nat.reduceEqDiff, Nat.reduceAdd, Nat.reduceSub, Nat.reduceMul, Nat.reduceLT, Nat.reduceLeDiff, Nat.reduceBEq, Nat.reduceDiv, Nat.reduceMod, Int.reduceToNat, Int.reduceNeg, Int.reduceAdd, Int.reduceSub, Int.reduceMul, Int.reduceEq, Int.reduceNe, Int.reduceLT, Int.reduceLE, Int.reduceGT, Int.reduceGE, Int.cast_ofNat_Int]
  refine fin_ok (fun k bk hk => ?_) ⟨rfl, rfl⟩
  have h1 := lt_of_bnd hp4 hk
  have h6 := lt_of_bnd hp1 (Mem.set_eq _ p6 _)
  simp (disch := omega) only [Mem.set_ne, hk]
end Go.X

/- How the arguments read that are of small bulk: scripts. -/




set_option linter.unusedVariables false
set_option linter.unusedSimpArgs false
namespace Go.X
open Go.Proofs.Try (prog)
open Go.Proofs.Ytddmalpfmcggjaa
open Go.RowKit Go.ChangeShapes Go.WideShapes Go.ChangeAt

theorem one_le {H : Type} (d : DataW H) : 1 ≤ Rows.uptoBulk d := by
  cases d with
  | lit l => cases l <;> simp [Rows.uptoBulk]
  | nil => simp [Rows.uptoBulk]
  | ptr d => simp [Rows.uptoBulk]
  | slice elems spare => simp [Rows.uptoBulk]
  | agg parts => simp [Rows.uptoBulk]
  | iface t d => simp [Rows.uptoBulk]
  | map entries => simp [Rows.uptoBulk]
  | held h => simp [Rows.uptoBulk]
theorem sum_bulk {H : Type} : ∀ (f : Nat → Nat) (l : List (DataW H × List MemPlace)), (∀ i y, l[i]? = some y → f i ≤ Rows.uptoBulk y.1) → ((List.range l.length).map f).sum ≤ Rows.uptoBulkAll (l.map (·.1))
  | f, [], h => by simp [Rows.uptoBulkAll]
  | f, y :: r, h => by
    have h0 := h 0 y rfl
    have h1 := sum_bulk (fun i => f (i + 1)) r fun i z hz => h (i + 1) z (by simpa using hz)
    simp only [List.length_cons, List.range_succ_eq_map, List.map_cons, List.map_map, List.sum_cons, Rows.uptoBulkAll]
    have e : ((List.range r.length).map (f ∘ Nat.succ)) = (List.range r.length).map fun i => f (i + 1) := rfl
    rw [e]
    omega
/-- What an argument reads as, and its bulk. -/
def Opens2 (P : Program) (t : TypeId) (R : List Lf → Nat → Prop) : Prop :=
  ∀ (H : Type) (enc : TypeId × Value → H) (w : World) (spare : Nat → Bool) (held : Bool) (fuel : Nat) (cs : List Value) (x : DataW H × List MemPlace),
    DataW.trod enc P w 0 spare held fuel t cs = some x → (∀ n ∈ x.1.weights P t, n ≤ reachBytes) → ∃ ls, ConcL (g0 P w) w ls cs ∧ R ls (Rows.uptoBulk x.1)
theorem Opens2.mono {P : Program} {t : TypeId} {R R' : List Lf → Nat → Prop} (h : Opens2 P t R) (hr : ∀ ls n, R ls n → R' ls n) : Opens2 P t R' :=
  fun H enc w spare held fuel cs x ht hw => by
    obtain ⟨ls, h1, h2⟩ := h H enc w spare held fuel cs x ht hw
    exact ⟨ls, h1, hr _ _ h2⟩
theorem Opens.two {P : Program} {t : TypeId} {R : List Lf → Prop} (h : Opens P t R) : Opens2 P t fun ls n => R ls ∧ 1 ≤ n :=
  fun H enc w spare held fuel cs x ht hw => by
    obtain ⟨ls, h1, h2⟩ := h H enc w spare held fuel cs x ht hw
    exact ⟨ls, h1, h2, one_le _⟩
theorem opens2_slice {P : Program} {t e : TypeId} {R : List Lf → Prop} (g : List Lf → Nat) (ht : P.underlying t = some (.slice e)) (he : Opens2 P e fun ls n => R ls ∧ g ls ≤ n) (hpos : 0 < P.cellsOf e) :
    Opens2 P t fun ls n => ∃ rows, ls = [.sl rows] ∧ (∀ r ∈ rows, R r) ∧ rows.length * P.bytesOf e ≤ reachBytes ∧ (rows.map g).sum + 1 ≤ n :=
  fun H enc w spare held fuel cs x h hw => by
    rcases DataW.trod_slice ht h with ⟨rfl, rfl⟩ | ⟨a, len, cap, elems, rest, n, rfl, rfl, rfl, hb, hlc, hcm, hel, hs, hsp, hns⟩
    · exact ⟨[.sl []], .cons .sl0 (.nil _ _), [], rfl, (fun r hr => by cases hr), by simp, one_le _⟩
    · have hbytes : len * P.bytesOf e ≤ reachBytes := by
        have h1 : (elems.length + rest.length) * P.bytesOf e ≤ reachBytes := hw _ (by simp [DataW.weights, ht])
        have h2 : len * P.bytesOf e ≤ (elems.length + rest.length) * P.bytesOf e := Nat.mul_le_mul_right _ (by omega)
        omega
      by_cases h0 : len = 0
      · subst h0
        exact ⟨[.sl []], .cons .sl0 (.nil _ _), [], rfl, (fun r hr => by cases hr), by simp, one_le _⟩
      · have each : ∀ i, i < len → ∃ ls cs', w.cells? 0 (a.add (i * P.cellsOf e)) (P.cellsOf e) = some cs' ∧ ConcL (g0 P w) w ls cs' ∧ (R ls ∧ ∀ y, elems[i]? = some y → g ls ≤ Rows.uptoBulk y.1) := fun i hi => by
          have h1 := hs i hi
          have hi' : i < elems.length := by omega
          rw [List.getElem?_eq_getElem hi', Option.bind_eq_some_iff] at h1
          obtain ⟨cs', h2, h3⟩ := h1
          obtain ⟨ls, h4, h5⟩ := he H enc w spare held n cs' _ h3 (fun m hm => hw m (by
            simp only [DataW.weights, ht, List.mem_cons, List.mem_append]
            refine .inr (.inl (mem_weightsAll (List.mem_map.2 ⟨_, List.getElem_mem hi', rfl⟩) m hm))))
          exact ⟨ls, cs', h2, h4, h5.1, fun y hy => by rw [List.getElem?_eq_getElem hi', Option.some.injEq] at hy; rw [← hy]; exact h5.2⟩
        have hspot : a.spot = none := by
          obtain ⟨ls, cs', h2, _, _⟩ := each 0 (by omega)
          have h3 := (World.cells?_some h2).2.2 0 hpos
          have hl := (World.cells?_some h2).2.1
          have e1 : (a.add (0 * P.cellsOf e)).add 0 = a := by simp [Addr.add]
          rw [e1] at h3
          have h4 : cs'[0]? = some cs'[0] := List.getElem?_eq_getElem (by omega)
          rw [h4] at h3
          cases hsp : a.spot with
          | none => rfl
          | some s =>
            unfold World.cell? at h3
            split at h3
            · rw [hsp] at h3; cases h3
            · cases h3
        obtain ⟨b, o, sp⟩ := a
        simp only at hspot
        subst hspot
        have each' : ∀ i, ∃ ls, i < len → ∃ cs', w.cells? 0 ((⟨b, o, none⟩ : Addr).add (i * P.cellsOf e)) (P.cellsOf e) = some cs' ∧ ConcL (g0 P w) w ls cs' ∧ (R ls ∧ ∀ y, elems[i]? = some y → g ls ≤ Rows.uptoBulk y.1) := fun i => by
          by_cases hi : i < len
          · obtain ⟨ls, cs', h1⟩ := each i hi
            exact ⟨ls, fun _ => ⟨cs', h1⟩⟩
          · exact ⟨[], fun h => absurd h hi⟩
        let f : Nat → List Lf := fun i => Classical.choose (each' i)
        have hf : ∀ i, i < len → ∃ cs', w.cells? 0 ((⟨b, o, none⟩ : Addr).add (i * P.cellsOf e)) (P.cellsOf e) = some cs' ∧ ConcL (g0 P w) w (f i) cs' ∧ (R (f i) ∧ ∀ y, elems[i]? = some y → g (f i) ≤ Rows.uptoBulk y.1) := fun i hi => Classical.choose_spec (each' i) hi
        have hcell : ∀ i j, i < len → j < P.cellsOf e → ∃ v x, w.cell? ⟨b, o + (i * P.cellsOf e + j), none⟩ = some v ∧ (f i)[j]? = some x ∧ Conc (g0 P w) w x v := fun i j hi hj => by
          obtain ⟨cs', h1, h2, h3⟩ := hf i hi
          obtain ⟨_, hl, hc⟩ := World.cells?_some h1
          have h4 := hc j hj
          rw [addr_add, addr_add, Nat.add_assoc] at h4
          have hj' : j < cs'.length := by omega
          have hj2 : j < (f i).length := by rw [h2.1]; exact hj'
          refine ⟨cs'[j], (f i)[j], by rw [h4]; exact List.getElem?_eq_getElem hj', List.getElem?_eq_getElem hj2, h2.2 j _ _ (List.getElem?_eq_getElem hj2) (List.getElem?_eq_getElem hj')⟩
        refine ⟨[.sl ((List.range len).map f)], .cons ?_ (.nil _ _), _, rfl, (fun r hr => ?_), by simpa using hbytes, ?_⟩
        · have hln : ((List.range len).map f).length = len := by simp
          have hc := Conc.sl (g := g0 P w) (w := w) (rows := (List.range len).map f) (b := b) (o := o) (sz := P.cellsOf e) (cap := cap) (fun k => (w.cell? ⟨b, o + k, none⟩).getD undef) ?_ (by simpa using hlc) ?_ ?_
          · rw [hln] at hc
            exact hc
          · intro r hr
            obtain ⟨i, hi, rfl⟩ := List.mem_map.1 hr
            obtain ⟨cs', h1, h2, h3⟩ := hf i (by simpa using hi)
            rw [h2.1, (World.cells?_some h1).2.1]
          · intro k hk
            rw [hln] at hk
            have hi : k / P.cellsOf e < len := (Nat.div_lt_iff_lt_mul hpos).2 hk
            have hj : k % P.cellsOf e < P.cellsOf e := Nat.mod_lt _ hpos
            obtain ⟨v, x, h1, h2, h3⟩ := hcell _ _ hi hj
            rw [Nat.div_add_mod'] at h1
            rw [h1]
            exact ⟨⟨v, h1⟩, rfl⟩
          · intro i j r x hr hx
            rw [List.getElem?_map] at hr
            obtain ⟨i', hi', rfl⟩ := Option.map_eq_some_iff.1 hr
            have hi2 : i < len := by
              have := (List.getElem?_eq_some_iff.1 hi').1
              simpa using this
            have e1 : i' = i := by
              rw [List.getElem?_range hi2] at hi'
              simpa using hi'.symm
            subst e1
            obtain ⟨cs', h1, h2, h3⟩ := hf i' hi2
            have hj : j < P.cellsOf e := by
              have := (List.getElem?_eq_some_iff.1 hx).1
              rw [h2.1, (World.cells?_some h1).2.1] at this
              exact this
            obtain ⟨v, y, k1, k2, k3⟩ := hcell _ _ hi2 hj
            rw [hx, Option.some.injEq] at k2
            subst k2
            rw [k1]
            exact k3
        · obtain ⟨i, hi, rfl⟩ := List.mem_map.1 hr
          obtain ⟨cs', h1, h2, h3⟩ := hf i (by simpa using hi)
          exact h3.1
        · have hlen : len ≤ elems.length := by omega
          have h1 := sum_bulk (fun i => g (f i)) elems fun i y hy => by
            by_cases hi : i < len
            · exact (hf i hi).elim fun cs' h => h.2.2.2 y hy
            · exact absurd (List.getElem?_eq_some_iff.1 hy).1 (by omega)
          have h2 : len = elems.length := by omega
          simp only [Rows.uptoBulk, List.map_map]
          rw [h2]
          have h3 : ((List.range elems.length).map (g ∘ f)).sum ≤ Rows.uptoBulkAll (elems.map (·.1)) := h1
          omega
def OpensAll2 (P : Program) : List Field → List (List Lf → Nat → Prop) → Prop
  | [], [] => True
  | f :: fs, R :: Rs => Opens2 P f.type R ∧ OpensAll2 P fs Rs
  | _, _ => False
def RsAll2 : List (List Lf → Nat → Prop) → List Lf → Nat → Prop
  | [], ls, _ => ls = []
  | R :: Rs, ls, n => ∃ a b k m, ls = a ++ b ∧ R a k ∧ RsAll2 Rs b m ∧ k + m ≤ n
theorem open_fields2 {H : Type} {enc : TypeId × Value → H} {P : Program} {w : World} {spare : Nat → Bool} {held : Bool} {fuel : Nat} {cs : List Value} :
    ∀ (fs : List Field) (Rs : List (List Lf → Nat → Prop)) (xs : List (DataW H × List MemPlace)) (o : Nat), Contig P fs o cs.length → OpensAll2 P fs Rs → xs.length = fs.length →
      (∀ (i : Nat) (f : Field), fs[i]? = some f → DataW.trod enc P w 0 spare held fuel f.type ((cs.drop f.offset).take (P.cellsOf f.type)) = xs[i]?) →
      (∀ (i : Nat) (f : Field) (y : DataW H × List MemPlace), fs[i]? = some f → xs[i]? = some y → ∀ n ∈ y.1.weights P f.type, n ≤ reachBytes) →
      ∃ ls, ConcL (g0 P w) w ls (cs.drop o) ∧ RsAll2 Rs ls (Rows.uptoBulkAll (xs.map (·.1)))
  | [], [], xs, o, hc, ho, hl, ht, hw => by
    refine ⟨[], ?_, rfl⟩
    rw [hc, List.drop_length]
    exact .nil _ _
  | [], R :: Rs, xs, o, hc, ho, hl, ht, hw => ho.elim
  | f :: fs, [], xs, o, hc, ho, hl, ht, hw => ho.elim
  | f :: fs, R :: Rs, [], o, hc, ho, hl, ht, hw => by simp at hl
  | f :: fs, R :: Rs, y :: xs, o, hc, ho, hl, ht, hw => by
    have h0 := ht 0 f rfl
    simp only [List.getElem?_cons_zero] at h0
    obtain ⟨a, ha, hra⟩ := ho.1 H enc w spare held fuel _ y h0 (hw 0 f y rfl rfl)
    obtain ⟨b, hb, hrb⟩ := open_fields2 fs Rs xs (o + P.cellsOf f.type) hc.2 ho.2 (by simpa using hl) (fun i f' hf => by simpa using ht (i + 1) f' (by simpa using hf)) (fun i f' y' hf hy => hw (i + 1) f' y' (by simpa using hf) (by simpa using hy))
    refine ⟨a ++ b, ?_, a, b, _, _, rfl, hra, hrb, by simp only [List.map_cons, Rows.uptoBulkAll]; omega⟩
    have : cs.drop o = (cs.drop f.offset).take (P.cellsOf f.type) ++ cs.drop (o + P.cellsOf f.type) := by
      rw [hc.1, ← List.drop_drop, List.take_append_drop]
    rw [this]
    exact ha.append hb
theorem opens2_struct {P : Program} {t : TypeId} {fs : Array Field} (ht : P.underlying t = some (.struct fs)) (Rs : List (List Lf → Nat → Prop)) (hc : Contig P fs.toList 0 (P.cellsOf t)) (ho : OpensAll2 P fs.toList Rs) : Opens2 P t fun ls n => ∃ m, RsAll2 Rs ls m ∧ m + 1 ≤ n :=
  fun H enc w spare held fuel cs x h hw => by
    obtain ⟨xs, n, rfl, rfl, hl, hlen, hf⟩ := DataW.trod_struct ht h
    have := open_fields2 (enc := enc) (w := w) (spare := spare) (held := held) (fuel := n) (cs := cs) fs.toList Rs xs 0 (by rw [hl]; exact hc) ho (by simpa using hlen) (fun i f hf' => hf i f (by simpa using hf')) (fun i f y hf' hy m hm => hw m (by
      simp only [DataW.weights, ht]
      refine DataW.weights_mem_each (j := i) (t := f.type) (d := y.1) ?_ ?_ m hm
      · rw [List.getElem?_map, hf']; rfl
      · rw [List.getElem?_map, hy]; rfl))
    obtain ⟨ls, h1, h2⟩ := this
    refine ⟨ls, by simpa using h1, _, h2, ?_⟩
    simp only [Rows.uptoBulk]
    exact Nat.le_refl _
def OpensT2 (P : Program) : List TypeId → List (List Lf → Nat → Prop) → Prop
  | [], [] => True
  | t :: ts, R :: Rs => Opens2 P t R ∧ OpensT2 P ts Rs
  | _, _ => False
theorem OpensT2.all {P : Program} : ∀ {fs : List Field} {Rs : List (List Lf → Nat → Prop)}, OpensT2 P (fs.map (·.type)) Rs → OpensAll2 P fs Rs
  | [], [], _ => trivial
  | f :: fs, R :: Rs, h => ⟨h.1, OpensT2.all h.2⟩
  | [], R :: Rs, h => h.elim
  | f :: fs, [], h => h.elim
theorem opens2_tys {P : Program} {t : TypeId} {ts : List TypeId} (ht : tysOf P t = some ts) (Rs : List (List Lf → Nat → Prop)) (ho : OpensT2 P ts Rs) : Opens2 P t fun ls n => ∃ m, RsAll2 Rs ls m ∧ m + 1 ≤ n := by
  unfold tysOf at ht
  split at ht
  · rename_i fs hu
    split at ht
    · rename_i hc
      simp only [Option.some.injEq] at ht
      subst ht
      exact opens2_struct hu Rs hc ho.all
    · cases ht
  · cases ht
theorem o2_i {t : TypeId} (ht : Go.Proofs.Try.prog.underlying t = some (.int .i64)) : Opens2 Go.Proofs.Try.prog t fun ls n => (∃ k, ls = [.int .i64 k] ∧ -9223372036854775808 ≤ k ∧ k ≤ 9223372036854775807) ∧ 1 ≤ n := (o_ir ht).two
theorem o2_pr : Opens2 Go.Proofs.Try.prog 38 fun ls n => (∃ p : Pr, ls = p.row ∧ True) ∧ 3 ≤ n := by
  refine (opens2_tys (ts := [3, 3]) (by kernel_rfl) [_, _] ⟨o2_i (by kernel_rfl), o2_i (by kernel_rfl), trivial⟩).mono ?_
  rintro ls n ⟨m, ⟨a, b, k, l, rfl, ⟨⟨x, rfl, _⟩, hk⟩, ⟨c, d, k2, l2, rfl, ⟨⟨y, rfl, _⟩, hk2⟩, rfl, h2⟩, h1⟩, hm⟩
  exact ⟨⟨⟨x, y⟩, rfl, trivial⟩, by omega⟩
theorem o2_op : Opens2 Go.Proofs.Try.prog 34 fun ls n => (∃ o : Opn, ls = o.row ∧ True) ∧ 5 ≤ n := by
  refine (opens2_tys (ts := [3, 3, 3, 3]) (by kernel_rfl) [_, _, _, _] ⟨o2_i (by kernel_rfl), o2_i (by kernel_rfl), o2_i (by kernel_rfl), o2_i (by kernel_rfl), trivial⟩).mono ?_
  rintro ls n ⟨m, ⟨a, b, k, l, rfl, ⟨⟨x, rfl, _⟩, hk⟩, ⟨c, d, k2, l2, rfl, ⟨⟨y, rfl, _⟩, hk2⟩, ⟨e, f, k3, l3, rfl, ⟨⟨z, rfl, _⟩, hk3⟩, ⟨g, h, k4, l4, rfl, ⟨⟨u, rfl, _⟩, hk4⟩, rfl, h4⟩, h3⟩, h2⟩, h1⟩, hm⟩
  exact ⟨⟨⟨x, y, z, u⟩, rfl, trivial⟩, by omega⟩
theorem sum_const {α : Type} (k : Nat) : ∀ l : List α, (l.map fun _ => k).sum = k * l.length
  | [] => by simp
  | a :: r => by
    have := sum_const k r
    simp only [List.map_cons, List.sum_cons, List.length_cons, this, Nat.mul_succ]
    omega
theorem o2_prs : Opens2 Go.Proofs.Try.prog 24 fun ls n => ∃ ps : List Pr, ls = [.sl (ps.map Pr.row)] ∧ 3 * ps.length + 1 ≤ n := by
  refine (opens2_slice (fun _ => 3) (by kernel_rfl) o2_pr (of_decide_eq_true (by kernel_rfl))).mono ?_
  rintro ls n ⟨rows, rfl, hr, hb, hs⟩
  obtain ⟨ps, rfl, _⟩ := rows_map hr
  rw [sum_const, List.length_map] at hs
  exact ⟨ps, rfl, hs⟩
theorem o2_ops : Opens2 Go.Proofs.Try.prog 32 fun ls n => ∃ ps : List Opn, ls = [.sl (ps.map Opn.row)] ∧ 5 * ps.length + 1 ≤ n := by
  refine (opens2_slice (fun _ => 5) (by kernel_rfl) o2_op (of_decide_eq_true (by kernel_rfl))).mono ?_
  rintro ls n ⟨rows, rfl, hr, hb, hs⟩
  obtain ⟨ps, rfl, _⟩ := rows_map hr
  rw [sum_const, List.length_map] at hs
  exact ⟨ps, rfl, hs⟩
theorem o2_ints : Opens2 Go.Proofs.Try.prog 26 fun ls n => ∃ ps : List Int, ls = [.sl (ps.map irow)] ∧ ps.length + 1 ≤ n ∧ ∀ k ∈ ps, -9223372036854775808 ≤ k ∧ k ≤ 9223372036854775807 := by
  refine (opens2_slice (e := 3) (fun _ => 1) (by kernel_rfl) (o2_i (by kernel_rfl)) (of_decide_eq_true (by kernel_rfl))).mono ?_
  rintro ls n ⟨rows, rfl, hr, hb, hs⟩
  obtain ⟨ps, rfl, h2⟩ := rows_map (row := irow) hr
  rw [sum_const, List.length_map] at hs
  exact ⟨ps, rfl, by omega, h2⟩
/-- The weight of a row that is a slice of operations. -/
def gOps : List Lf → Nat
  | [.sl rows] => 5 * rows.length + 1
  | _ => 0
theorem gOps_sum : ∀ L : List (List Opn), ((L.map oprow).map gOps).sum = 5 * callsN L + L.length
  | [] => rfl
  | l :: r => by
    have := gOps_sum r
    simp only [List.map_cons, List.sum_cons, List.length_cons, callsN] at this ⊢
    rw [this]
    simp only [oprow, gOps, List.length_map]
    omega
theorem o2_opss : Opens2 Go.Proofs.Try.prog 25 fun ls n => ∃ L : List (List Opn), ls = [.sl (L.map oprow)] ∧ 5 * callsN L + L.length + 1 ≤ n := by
  refine (opens2_slice (R := fun ls => ∃ l : List Opn, ls = oprow l ∧ True) gOps (by kernel_rfl) (o2_ops.mono ?_) (of_decide_eq_true (by kernel_rfl))).mono ?_
  · rintro ls n ⟨ps, rfl, h⟩
    exact ⟨⟨ps, rfl, trivial⟩, by simpa [gOps] using h⟩
  · rintro ls n ⟨rows, rfl, hr, hb, hs⟩
    obtain ⟨L, rfl, _⟩ := rows_map hr
    refine ⟨L, rfl, ?_⟩
    rw [gOps_sum] at hs
    exact hs
theorem o2_pol : Opens2 Go.Proofs.Try.prog 23 fun ls n => (∃ p : Pol, ls = p.row) ∧ 6 ≤ n := by
  refine (opens2_tys (ts := [3, 3, 3, 3, 3]) (by kernel_rfl) [_, _, _, _, _] ⟨o2_i (by kernel_rfl), o2_i (by kernel_rfl), o2_i (by kernel_rfl), o2_i (by kernel_rfl), o2_i (by kernel_rfl), trivial⟩).mono ?_
  rintro ls n ⟨m, ⟨a, b, k, l, rfl, ⟨⟨x, rfl, _⟩, hk⟩, ⟨c, d, k2, l2, rfl, ⟨⟨y, rfl, _⟩, hk2⟩, ⟨e, f, k3, l3, rfl, ⟨⟨z, rfl, _⟩, hk3⟩, ⟨g, h, k4, l4, rfl, ⟨⟨u, rfl, _⟩, hk4⟩, ⟨g', h', k5, l5, rfl, ⟨⟨v, rfl, _⟩, hk5⟩, rfl, h5⟩, h4⟩, h3⟩, h2⟩, h1⟩, hm⟩
  exact ⟨⟨⟨x, y, z, u, v⟩, rfl⟩, by omega⟩
theorem o2_scr : Opens2 Go.Proofs.Try.prog 28 fun ls n => ∃ s : Scr, ls = s.row ∧ (-9223372036854775808 ≤ s.threads ∧ s.threads ≤ 9223372036854775807) ∧ (∀ k ∈ s.picks, -9223372036854775808 ≤ k ∧ k ≤ 9223372036854775807) ∧ 3 * s.beg.length + 5 * callsN s.ops + s.ops.length + s.picks.length ≤ n := by
  refine (opens2_tys (ts := [3, 3, 23, 24, 25, 26]) (by kernel_rfl) [_, _, _, _, _, _] ⟨o2_i (by kernel_rfl), o2_i (by kernel_rfl), o2_pol, o2_prs, o2_opss, o2_ints, trivial⟩).mono ?_
  rintro ls n ⟨m, ⟨a, b, k, l, rfl, ⟨⟨x, rfl, hx⟩, hk⟩, ⟨c, d, k2, l2, rfl, ⟨⟨y, rfl, _⟩, hk2⟩, ⟨e, f, k3, l3, rfl, ⟨⟨p, rfl⟩, hk3⟩, ⟨g, h, k4, l4, rfl, ⟨bg, rfl, hk4⟩, ⟨g', h', k5, l5, rfl, ⟨ops, rfl, hk5⟩, ⟨g'', h'', k6, l6, rfl, ⟨pk, rfl, hk6, hpk⟩, rfl, h6⟩, h5⟩, h4⟩, h3⟩, h2⟩, h1⟩, hm⟩
  exact ⟨⟨x, y, p, bg, ops, pk⟩, rfl, hx, hpk, by simp only; omega⟩
theorem len_callsN {L : List (List Opn)} {l : List Opn} (h : l ∈ L) : l.length ≤ callsN L := by
  induction L with
  | nil => cases h
  | cons x r ih =>
    simp only [callsN, List.map_cons, List.sum_cons] at ih ⊢
    rcases List.mem_cons.1 h with rfl | h
    · omega
    · have := ih h
      omega
theorem sm_of {s : Scr} {n : Nat} (h : 3 * s.beg.length + 5 * callsN s.ops + s.ops.length + s.picks.length ≤ n) (hn : n ≤ 1048576) : SmS s :=
  ⟨by omega, by omega, fun l hl => by have := len_callsN hl; omega, by rw [← callsN]; omega, by omega⟩
section
variable {H : Type} {enc : TypeId × Value → H} {W : World} {base : Nat} {v : Value} {d : DataW H} {p : List MemPlace}
theorem arg2_agg {R : List Lf → Nat → Prop} {t : TypeId} {fs : Array Field} (hu : Go.Proofs.Try.prog.underlying t = some (.struct fs)) (ho : Opens2 Go.Proofs.Try.prog t R) (hok : Value.okWide Go.Proofs.Try.prog W .any base t v)
    (h : DataW.Trod enc Go.Proofs.Try.prog W 0 (fun _ => true) true t v d p) (hw : ∀ n ∈ d.weights Go.Proofs.Try.prog t, n ≤ reachBytes) : ∃ ls, ConcA (g0 Go.Proofs.Try.prog W) W (.agg ls) v ∧ R ls (Rows.uptoBulk d) := by
  obtain ⟨cs, rfl, _⟩ := okWide_struct hu hok
  obtain ⟨fuel, hf⟩ := h
  obtain ⟨ls, h1, h2⟩ := ho H enc W _ _ fuel _ _ hf hw
  refine ⟨ls, ?_, h2⟩
  have : (Value.agg cs) = .agg cs.toList.toArray := rfl
  rw [this]
  exact .agg _ h1
theorem arg_scr (hok : Value.okWide Go.Proofs.Try.prog W .any base 28 v) (h : DataW.Trod enc Go.Proofs.Try.prog W 0 (fun _ => true) true 28 v d p) (hw : ∀ n ∈ d.weights Go.Proofs.Try.prog 28, n ≤ reachBytes) (hb : Rows.uptoBulk d ≤ 1048576) :
    ∃ s : Scr, ConcA (g0 Go.Proofs.Try.prog W) W (.agg s.row) v ∧ SmS s ∧ (-9223372036854775808 ≤ s.threads ∧ s.threads ≤ 9223372036854775807) ∧ ∀ k ∈ s.picks, -9223372036854775808 ≤ k ∧ k ≤ 9223372036854775807 := by
  obtain ⟨fs, hu⟩ : ∃ fs, Go.Proofs.Try.prog.underlying 28 = some (.struct fs) := struct_of (by kernel_rfl)
  obtain ⟨ls, h1, s, rfl, h2, h3, h4⟩ := arg2_agg hu o2_scr hok h hw
  exact ⟨s, h1, sm_of h4 hb, h2, h3⟩
end
/-- A part's bulk is at most the whole's. -/
theorem part_le {H : Type} {d : DataW H} {l : List (DataW H)} (h : d ∈ l) : Rows.uptoBulk d ≤ Rows.uptoBulkAll l := by
  induction l with
  | nil => cases h
  | cons x r ih =>
    simp only [Rows.uptoBulkAll]
    cases List.mem_cons.1 h with
    | inl e => subst e; omega
    | inr e => have := ih e; omega
end Go.X

/- Bounds: what the functions do. -/

set_option linter.unusedVariables false
set_option linter.unusedSimpArgs false
set_option maxHeartbeats 20000000
set_option maxRecDepth 100000
namespace Go.X
open Go.Proofs.Try (prog)

def stepsI (u b : Int) : Int := if 0 ≤ u ∧ u ≤ 60000 ∧ 0 ≤ b ∧ b ≤ 6 then 1000 + 50 * (b + 1) * (b + 1) * (u + 20) else 0
theorem steps_spec (u b : Int) (M : Mem) : XCalls Go.Proofs.Try.prog 17 [.l (.int .i64 u), .l (.int .i64 b)] M fun r M' => r = .l (.int .i64 (stepsI u b)) ∧ M' = M := by
  refine xcalls_intro (rs := [.tmp 4]) Go.Proofs.Try.func17 rfl (by kernel_rfl) rfl rfl (by kernel_rfl) (by simp) ?_
  simp -implicitDefEqProofs (maxSteps := 1000000) (disch := omega) only [↓xsP, ↓vc_seq, xsQ, xsT, xsR, xsD, ↓reduceIte, reduceCtorEq, eq_self, ne_eq, imp_self, forall_const, Nat.reduceEqDiff, Nat.reduceAdd, Nat.reduceSub, Nat.reduceMul, Nat.reduceLT, Nat.reduceLeDiff, Nat.reduceBEq, Nat.reduceDiv, Nat.reduceMod, Int.reduceToNat, Int.reduceNeg, Int.reduceAdd, Int.reduceSub, Int.reduceMul, Int.reduceEq, Int.reduceNe, Int.reduceLT, Int.reduceLE, Int.reduceGT, Int.reduceGE]
  have hno : ¬ (0 ≤ u ∧ u ≤ 60000 ∧ 0 ≤ b ∧ b ≤ 6) → @finI prog (.l (.int .i64 0)) M ⟨fun r M' => r = .l (.int .i64 (stepsI u b)) ∧ M' = M⟩ := fun h => fin_ok (Mem.le_refl _) ⟨by rw [stepsI, if_neg h], rfl⟩
  refine gI_prop_f (fun h1 => ?_) (fun h1 => ?_)
  rotate_left
  · simp -implicitDefEqProofs (maxSteps := 1000000) (disch := omega) only [↓xsP, ↓vc_seq, xsQ, xsT, xsR, xsD, ↓reduceIte, reduceCtorEq, eq_self, ne_eq, imp_self, forall_const, Nat.reduceEqDiff, Nat.reduceAdd, Nat.reduceSub, Nat.reduceMul, Nat.reduceLT, Nat.reduceLeDiff, Nat.reduceBEq, Nat.reduceDiv, Nat.reduceMod, Int.reduceToNat, Int.reduceNeg, Int.reduceAdd, Int.reduceSub, Int.reduceMul, Int.reduceEq, Int.reduceNe, Int.reduceLT, Int.reduceLE, Int.reduceGT, Int.reduceGE, h1]
    exact hno (by omega)
  simp -implicitDefEqProofs (maxSteps := 1000000) (disch := omega) only [↓xsP, ↓vc_seq, xsQ, xsT, xsR, xsD, ↓reduceIte, reduceCtorEq, eq_self, ne_eq, imp_self, forall_const, Nat.reduceEqDiff, Nat.reduceAdd, Nat.reduceSub, Nat.reduceMul, Nat.reduceLT, Nat.reduceLeDiff, Nat.reduceBEq, Nat.reduceDiv, Nat.reduceMod, Int.reduceToNat, Int.reduceNeg, Int.reduceAdd, Int.reduceSub, Int.reduceMul, Int.reduceEq, Int.reduceNe, Int.reduceLT, Int.reduceLE, Int.reduceGT, Int.reduceGE, h1]
  refine gI_prop_f (fun h2 => ?_) (fun h2 => ?_)
  rotate_left
  · simp -implicitDefEqProofs (maxSteps := 1000000) (disch := omega) only [↓xsP, ↓vc_seq, xsQ, xsT, xsR, xsD, ↓reduceIte, reduceCtorEq, eq_self, ne_eq, imp_self, forall_const, Nat.reduceEqDiff, Nat.reduceAdd, Nat.reduceSub, Nat.reduceMul, Nat.reduceLT, Nat.reduceLeDiff, Nat.reduceBEq, Nat.reduceDiv, Nat.reduceMod, Int.reduceToNat, Int.reduceNeg, Int.reduceAdd, Int.reduceSub, Int.reduceMul, Int.reduceEq, Int.reduceNe, Int.reduceLT, Int.reduceLE, Int.reduceGT, Int.reduceGE, h1, h2]
    exact hno (by omega)
  simp -implicitDefEqProofs (maxSteps := 1000000) (disch := omega) only [↓xsP, ↓vc_seq, xsQ, xsT, xsR, xsD, ↓reduceIte, reduceCtorEq, eq_self, ne_eq, imp_self, forall_const, Nat.reduceEqDiff, Nat.reduceAdd, Nat.reduceSub, Nat.reduceMul, Nat.reduceLT, Nat.reduceLeDiff, Nat.reduceBEq, Nat.reduceDiv, Nat.reduceMod, Int.reduceToNat, Int.reduceNeg, Int.reduceAdd, Int.reduceSub, Int.reduceMul, Int.reduceEq, Int.reduceNe, Int.reduceLT, Int.reduceLE, Int.reduceGT, Int.reduceGE, h1, h2]
  refine gI_prop_f (fun h3 => ?_) (fun h3 => ?_)
  rotate_left
  · simp -implicitDefEqProofs (maxSteps := 1000000) (disch := omega) only [↓xsP, ↓vc_seq, xsQ, xsT, xsR, xsD, ↓reduceIte, reduceCtorEq, eq_self, ne_eq, imp_self, forall_const, Nat.reduceEqDiff, Nat.reduceAdd, Nat.reduceSub, Nat.reduceMul, Nat.reduceLT, Nat.reduceLeDiff, Nat.reduceBEq, Nat.reduceDiv, Nat.reduceMod, Int.reduceToNat, Int.reduceNeg, Int.reduceAdd, Int.reduceSub, Int.reduceMul, Int.reduceEq, Int.reduceNe, Int.reduceLT, Int.reduceLE, Int.reduceGT, Int.reduceGE, h1, h2, h3]
    exact hno (by omega)
  simp -implicitDefEqProofs (maxSteps := 1000000) (disch := omega) only [↓xsP, ↓vc_seq, xsQ, xsT, xsR, xsD, ↓reduceIte, reduceCtorEq, eq_self, ne_eq, imp_self, forall_const, Nat.reduceEqDiff, Nat.reduceAdd, Nat.reduceSub, Nat.reduceMul, Nat.reduceLT, Nat.reduceLeDiff, Nat.reduceBEq, Nat.reduceDiv, Nat.reduceMod, Int.reduceToNat, Int.reduceNeg, Int.reduceAdd, Int.reduceSub, Int.reduceMul, Int.reduceEq, Int.reduceNe, Int.reduceLT, Int.reduceLE, Int.reduceGT, Int.reduceGE, h1, h2, h3]
  refine condI_prop (fun h4 => ?_) (fun h4 => ?_)
  · simp -implicitDefEqProofs (maxSteps := 1000000) (disch := omega) only [↓xsP, ↓vc_seq, xsQ, xsT, xsR, xsD, ↓reduceIte, reduceCtorEq, eq_self, ne_eq, imp_self, forall_const, Nat.reduceEqDiff, Nat.reduceAdd, Nat.reduceSub, Nat.reduceMul, Nat.reduceLT, Nat.reduceLeDiff, Nat.reduceBEq, Nat.reduceDiv, Nat.reduceMod, Int.reduceToNat, Int.reduceNeg, Int.reduceAdd, Int.reduceSub, Int.reduceMul, Int.reduceEq, Int.reduceNe, Int.reduceLT, Int.reduceLE, Int.reduceGT, Int.reduceGE]
    exact hno (by omega)
  have hb : b = 0 ∨ b = 1 ∨ b = 2 ∨ b = 3 ∨ b = 4 ∨ b = 5 ∨ b = 6 := by omega
  rcases hb with rfl | rfl | rfl | rfl | rfl | rfl | rfl
  all_goals
    simp -implicitDefEqProofs (maxSteps := 1000000) (disch := omega) only [↓xsP, ↓vc_seq, xsQ, xsT, xsR, xsD, ↓reduceIte, reduceCtorEq, eq_self, ne_eq, imp_self, forall_const, Nat.reduceEqDiff, Nat.reduceAdd, Nat.reduceSub, Nat.reduceMul, Nat.reduceLT, Nat.reduceLeDiff, Nat.reduceBEq, Nat.reduceDiv, Nat.reduceMod, Int.reduceToNat, Int.reduceNeg, Int.reduceAdd, Int.reduceSub, Int.reduceMul, Int.reduceEq, Int.reduceNe, Int.reduceLT, Int.reduceLE, Int.reduceGT, Int.reduceGE]
    refine fin_ok (Mem.le_refl _) ⟨?_, rfl⟩
    rw [stepsI, if_pos (by omega)]
    congr 2
    try omega
theorem stepsR_spec (u b : Int) (M : Mem) : XCalls Go.Proofs.Try.prog 18 [.l (.int .i64 u), .l (.int .i64 b)] M fun r M' => r = .l (.int .i64 (stepsI u b)) ∧ M' = M := by
  refine xcalls_intro (rs := [.tmp 4]) Go.Proofs.Try.func18 rfl (by kernel_rfl) rfl rfl (by kernel_rfl) (by simp) ?_
  simp -implicitDefEqProofs (maxSteps := 1000000) (disch := omega) only [↓xsP, ↓vc_seq, xsQ, xsT, xsR, xsD, ↓reduceIte, reduceCtorEq, eq_self, ne_eq, imp_self, forall_const, Nat.reduceEqDiff, Nat.reduceAdd, Nat.reduceSub, Nat.reduceMul, Nat.reduceLT, Nat.reduceLeDiff, Nat.reduceBEq, Nat.reduceDiv, Nat.reduceMod, Int.reduceToNat, Int.reduceNeg, Int.reduceAdd, Int.reduceSub, Int.reduceMul, Int.reduceEq, Int.reduceNe, Int.reduceLT, Int.reduceLE, Int.reduceGT, Int.reduceGE]
  have hno : ¬ (0 ≤ u ∧ u ≤ 60000 ∧ 0 ≤ b ∧ b ≤ 6) → @finI prog (.l (.int .i64 0)) M ⟨fun r M' => r = .l (.int .i64 (stepsI u b)) ∧ M' = M⟩ := fun h => fin_ok (Mem.le_refl _) ⟨by rw [stepsI, if_neg h], rfl⟩
  refine gI_prop_f (fun h1 => ?_) (fun h1 => ?_)
  rotate_left
  · simp -implicitDefEqProofs (maxSteps := 1000000) (disch := omega) only [↓xsP, ↓vc_seq, xsQ, xsT, xsR, xsD, ↓reduceIte, reduceCtorEq, eq_self, ne_eq, imp_self, forall_const, Nat.reduceEqDiff, Nat.reduceAdd, Nat.reduceSub, Nat.reduceMul, Nat.reduceLT, Nat.reduceLeDiff, Nat.reduceBEq, Nat.reduceDiv, Nat.reduceMod, Int.reduceToNat, Int.reduceNeg, Int.reduceAdd, Int.reduceSub, Int.reduceMul, Int.reduceEq, Int.reduceNe, Int.reduceLT, Int.reduceLE, Int.reduceGT, Int.reduceGE, h1]
    exact hno (by omega)
  simp -implicitDefEqProofs (maxSteps := 1000000) (disch := omega) only [↓xsP, ↓vc_seq, xsQ, xsT, xsR, xsD, ↓reduceIte, reduceCtorEq, eq_self, ne_eq, imp_self, forall_const, Nat.reduceEqDiff, Nat.reduceAdd, Nat.reduceSub, Nat.reduceMul, Nat.reduceLT, Nat.reduceLeDiff, Nat.reduceBEq, Nat.reduceDiv, Nat.reduceMod, Int.reduceToNat, Int.reduceNeg, Int.reduceAdd, Int.reduceSub, Int.reduceMul, Int.reduceEq, Int.reduceNe, Int.reduceLT, Int.reduceLE, Int.reduceGT, Int.reduceGE, h1]
  refine gI_prop_f (fun h2 => ?_) (fun h2 => ?_)
  rotate_left
  · simp -implicitDefEqProofs (maxSteps := 1000000) (disch := omega) only [↓xsP, ↓vc_seq, xsQ, xsT, xsR, xsD, ↓reduceIte, reduceCtorEq, eq_self, ne_eq, imp_self, forall_const, Nat.reduceEqDiff, Nat.reduceAdd, Nat.reduceSub, Nat.reduceMul, Nat.reduceLT, Nat.reduceLeDiff, Nat.reduceBEq, Nat.reduceDiv, Nat.reduceMod, Int.reduceToNat, Int.reduceNeg, Int.reduceAdd, Int.reduceSub, Int.reduceMul, Int.reduceEq, Int.reduceNe, Int.reduceLT, Int.reduceLE, Int.reduceGT, Int.reduceGE, h1, h2]
    exact hno (by omega)
  simp -implicitDefEqProofs (maxSteps := 1000000) (disch := omega) only [↓xsP, ↓vc_seq, xsQ, xsT, xsR, xsD, ↓reduceIte, reduceCtorEq, eq_self, ne_eq, imp_self, forall_const, Nat.reduceEqDiff, Nat.reduceAdd, Nat.reduceSub, Nat.reduceMul, Nat.reduceLT, Nat.reduceLeDiff, Nat.reduceBEq, Nat.reduceDiv, Nat.reduceMod, Int.reduceToNat, Int.reduceNeg, Int.reduceAdd, Int.reduceSub, Int.reduceMul, Int.reduceEq, Int.reduceNe, Int.reduceLT, Int.reduceLE, Int.reduceGT, Int.reduceGE, h1, h2]
  refine gI_prop_f (fun h3 => ?_) (fun h3 => ?_)
  rotate_left
  · simp -implicitDefEqProofs (maxSteps := 1000000) (disch := omega) only [↓xsP, ↓vc_seq, xsQ, xsT, xsR, xsD, ↓reduceIte, reduceCtorEq, eq_self, ne_eq, imp_self, forall_const, Nat.reduceEqDiff, Nat.reduceAdd, Nat.reduceSub, Nat.reduceMul, Nat.reduceLT, Nat.reduceLeDiff, Nat.reduceBEq, Nat.reduceDiv, Nat.reduceMod, Int.reduceToNat, Int.reduceNeg, Int.reduceAdd, Int.reduceSub, Int.reduceMul, Int.reduceEq, Int.reduceNe, Int.reduceLT, Int.reduceLE, Int.reduceGT, Int.reduceGE, h1, h2, h3]
    exact hno (by omega)
  simp -implicitDefEqProofs (maxSteps := 1000000) (disch := omega) only [↓xsP, ↓vc_seq, xsQ, xsT, xsR, xsD, ↓reduceIte, reduceCtorEq, eq_self, ne_eq, imp_self, forall_const, Nat.reduceEqDiff, Nat.reduceAdd, Nat.reduceSub, Nat.reduceMul, Nat.reduceLT, Nat.reduceLeDiff, Nat.reduceBEq, Nat.reduceDiv, Nat.reduceMod, Int.reduceToNat, Int.reduceNeg, Int.reduceAdd, Int.reduceSub, Int.reduceMul, Int.reduceEq, Int.reduceNe, Int.reduceLT, Int.reduceLE, Int.reduceGT, Int.reduceGE, h1, h2, h3]
  refine condI_prop (fun h4 => ?_) (fun h4 => ?_)
  · simp -implicitDefEqProofs (maxSteps := 1000000) (disch := omega) only [↓xsP, ↓vc_seq, xsQ, xsT, xsR, xsD, ↓reduceIte, reduceCtorEq, eq_self, ne_eq, imp_self, forall_const, Nat.reduceEqDiff, Nat.reduceAdd, Nat.reduceSub, Nat.reduceMul, Nat.reduceLT, Nat.reduceLeDiff, Nat.reduceBEq, Nat.reduceDiv, Nat.reduceMod, Int.reduceToNat, Int.reduceNeg, Int.reduceAdd, Int.reduceSub, Int.reduceMul, Int.reduceEq, Int.reduceNe, Int.reduceLT, Int.reduceLE, Int.reduceGT, Int.reduceGE]
    exact hno (by omega)
  have hb : b = 0 ∨ b = 1 ∨ b = 2 ∨ b = 3 ∨ b = 4 ∨ b = 5 ∨ b = 6 := by omega
  rcases hb with rfl | rfl | rfl | rfl | rfl | rfl | rfl
  all_goals
    simp -implicitDefEqProofs (maxSteps := 1000000) (disch := omega) only [↓xsP, ↓vc_seq, xsQ, xsT, xsR, xsD, ↓reduceIte, reduceCtorEq, eq_self, ne_eq, imp_self, forall_const, Nat.reduceEqDiff, Nat.reduceAdd, Nat.reduceSub, Nat.reduceMul, Nat.reduceLT, Nat.reduceLeDiff, Nat.reduceBEq, Nat.reduceDiv, Nat.reduceMod, Int.reduceToNat, Int.reduceNeg, Int.reduceAdd, Int.reduceSub, Int.reduceMul, Int.reduceEq, Int.reduceNe, Int.reduceLT, Int.reduceLE, Int.reduceGT, Int.reduceGE]
    refine fin_ok (Mem.le_refl _) ⟨?_, rfl⟩
    rw [stepsI, if_pos (by omega)]
    congr 2
    try omega
def putI (h : Int) : Int := if 0 ≤ h ∧ h ≤ 60000 then 2 * h + 2 else 0
theorem put_spec (h : Int) (M : Mem) : XCalls Go.Proofs.Try.prog 23 [.l (.int .i64 h)] M fun r M' => r = .l (.int .i64 (putI h)) ∧ M' = M := by
  refine xcalls_intro (rs := [.tmp 2]) Go.Proofs.Try.func23 rfl (by kernel_rfl) rfl rfl (by kernel_rfl) (by simp) ?_
  simp -implicitDefEqProofs (maxSteps := 1000000) (disch := omega) only [↓xsP, ↓vc_seq, xsQ, xsT, xsR, xsD, ↓reduceIte, reduceCtorEq, eq_self, ne_eq, imp_self, forall_const, Nat.reduceEqDiff, Nat.reduceAdd, Nat.reduceSub, Nat.reduceMul, Nat.reduceLT, Nat.reduceLeDiff, Nat.reduceBEq, Nat.reduceDiv, Nat.reduceMod, Int.reduceToNat, Int.reduceNeg, Int.reduceAdd, Int.reduceSub, Int.reduceMul, Int.reduceEq, Int.reduceNe, Int.reduceLT, Int.reduceLE, Int.reduceGT, Int.reduceGE]
  have hno : ¬ (0 ≤ h ∧ h ≤ 60000) → @finI prog (.l (.int .i64 0)) M ⟨fun r M' => r = .l (.int .i64 (putI h)) ∧ M' = M⟩ := fun hh => fin_ok (Mem.le_refl _) ⟨by rw [putI, if_neg hh], rfl⟩
  refine gI_prop_f (fun h1 => ?_) (fun h1 => ?_)
  · simp -implicitDefEqProofs (maxSteps := 1000000) (disch := omega) only [↓xsP, ↓vc_seq, xsQ, xsT, xsR, xsD, ↓reduceIte, reduceCtorEq, eq_self, ne_eq, imp_self, forall_const, Nat.reduceEqDiff, Nat.reduceAdd, Nat.reduceSub, Nat.reduceMul, Nat.reduceLT, Nat.reduceLeDiff, Nat.reduceBEq, Nat.reduceDiv, Nat.reduceMod, Int.reduceToNat, Int.reduceNeg, Int.reduceAdd, Int.reduceSub, Int.reduceMul, Int.reduceEq, Int.reduceNe, Int.reduceLT, Int.reduceLE, Int.reduceGT, Int.reduceGE, h1]
    refine condI_prop (fun h2 => ?_) (fun h2 => ?_)
    · simp -implicitDefEqProofs (maxSteps := 1000000) (disch := omega) only [↓xsP, ↓vc_seq, xsQ, xsT, xsR, xsD, ↓reduceIte, reduceCtorEq, eq_self, ne_eq, imp_self, forall_const, Nat.reduceEqDiff, Nat.reduceAdd, Nat.reduceSub, Nat.reduceMul, Nat.reduceLT, Nat.reduceLeDiff, Nat.reduceBEq, Nat.reduceDiv, Nat.reduceMod, Int.reduceToNat, Int.reduceNeg, Int.reduceAdd, Int.reduceSub, Int.reduceMul, Int.reduceEq, Int.reduceNe, Int.reduceLT, Int.reduceLE, Int.reduceGT, Int.reduceGE]
      exact hno (by omega)
    · simp -implicitDefEqProofs (maxSteps := 1000000) (disch := omega) only [↓xsP, ↓vc_seq, xsQ, xsT, xsR, xsD, ↓reduceIte, reduceCtorEq, eq_self, ne_eq, imp_self, forall_const, Nat.reduceEqDiff, Nat.reduceAdd, Nat.reduceSub, Nat.reduceMul, Nat.reduceLT, Nat.reduceLeDiff, Nat.reduceBEq, Nat.reduceDiv, Nat.reduceMod, Int.reduceToNat, Int.reduceNeg, Int.reduceAdd, Int.reduceSub, Int.reduceMul, Int.reduceEq, Int.reduceNe, Int.reduceLT, Int.reduceLE, Int.reduceGT, Int.reduceGE]
      exact fin_ok (Mem.le_refl _) ⟨by rw [putI, if_pos (by omega)], rfl⟩
  · simp -implicitDefEqProofs (maxSteps := 1000000) (disch := omega) only [↓xsP, ↓vc_seq, xsQ, xsT, xsR, xsD, ↓reduceIte, reduceCtorEq, eq_self, ne_eq, imp_self, forall_const, Nat.reduceEqDiff, Nat.reduceAdd, Nat.reduceSub, Nat.reduceMul, Nat.reduceLT, Nat.reduceLeDiff, Nat.reduceBEq, Nat.reduceDiv, Nat.reduceMod, Int.reduceToNat, Int.reduceNeg, Int.reduceAdd, Int.reduceSub, Int.reduceMul, Int.reduceEq, Int.reduceNe, Int.reduceLT, Int.reduceLE, Int.reduceGT, Int.reduceGE, h1]
    exact hno (by omega)
def needN (c t b : Nat) : Nat := 300 + 20 * b + 8 * c * (t + 1) * (4 * (b + c) + 40)
theorem needN_bd {c t b : Nat} (hc : c ≤ 360) (ht : t ≤ 6) (hb : b ≤ 200) : 8 * c * (t + 1) ≤ 20160 ∧ 8 * c * (t + 1) * (4 * (b + c) + 40) ≤ 20160 * 2280 := by
  have h1 : 8 * c * (t + 1) ≤ 2880 * 7 := Nat.mul_le_mul (by omega) (by omega)
  refine ⟨h1, Nat.mul_le_mul h1 (by omega)⟩
theorem needN_int {c t b : Nat} (hc : c ≤ 360) (ht : t ≤ 6) (hb : b ≤ 200) :
    IntKind.i64.wrap (8 * (c : Int) * ((t : Int) + 1)) = 8 * (c : Int) * ((t : Int) + 1) ∧
    IntKind.i64.wrap (8 * (c : Int) * ((t : Int) + 1) * (4 * ((b : Int) + (c : Int)) + 40)) = 8 * (c : Int) * ((t : Int) + 1) * (4 * ((b : Int) + (c : Int)) + 40) ∧
    IntKind.i64.wrap (300 + 20 * (b : Int) + 8 * (c : Int) * ((t : Int) + 1) * (4 * ((b : Int) + (c : Int)) + 40)) = ((needN c t b : Nat) : Int) := by
  obtain ⟨h1, h2⟩ := needN_bd hc ht hb
  have e1 : 8 * (c : Int) * ((t : Int) + 1) = ((8 * c * (t + 1) : Nat) : Int) := by simp
  have e2 : 8 * (c : Int) * ((t : Int) + 1) * (4 * ((b : Int) + (c : Int)) + 40) = ((8 * c * (t + 1) * (4 * (b + c) + 40) : Nat) : Int) := by simp
  refine ⟨?_, ?_, ?_⟩
  · rw [e1]
    exact wrap_in (by omega) (by omega)
  · rw [e2]
    exact wrap_in (by omega) (by omega)
  · rw [e2, wrap_in (by omega) (by omega), needN]
    omega
/-- What a clean script has. -/
structure CleanB (s : Scr) (t : Nat) : Prop where
  thr : s.threads = (t : Int)
  t6 : t ≤ 6
  calls : callsN s.ops ≤ 360
  beg : s.beg.length ≤ 200
theorem clean_B (s : Scr) : CleanB (cleanS s) (thrN s) := by
  have hT := thrN_le s
  have h1 := callsN_rows s (thrN s)
  exact ⟨rfl, hT.2, by show callsN (rowsN s (thrN s)) ≤ 360; omega, by show ((putL s.beg).take 200).length ≤ 200; rw [List.length_take]; omega⟩
theorem need_spec (s : Scr) (t : Nat) (hB : CleanB s t) (hs : SmS s) (M : Mem) : XCalls Go.Proofs.Try.prog 45 [.agg s.row] M fun r M' => r = .l (.int .i64 (needN (callsN s.ops) t s.beg.length)) ∧ M' = M := by
  refine xcalls_intro (rs := [.tmp 2]) Go.Proofs.Try.func45 rfl (by kernel_rfl) rfl rfl (by kernel_rfl) (by simp) ?_
  obtain ⟨hT, h6, hc, hb⟩ := hB
  obtain ⟨n1, n2, n3⟩ := needN_int hc h6 hb
  simp -implicitDefEqProofs (maxSteps := 1000000) (disch := omega) only [↓xsP, ↓vc_seq, xsQ, xsT, xsR, xsD, ↓reduceIte, reduceCtorEq, eq_self, ne_eq, imp_self, forall_const, Nat.reduceEqDiff, Nat.reduceAdd, Nat.reduceSub, Nat.reduceMul, Nat.reduceLT, Nat.reduceLeDiff, Nat.reduceBEq, Nat.reduceDiv, Nat.reduceMod, Int.reduceToNat, Int.reduceNeg, Int.reduceAdd, Int.reduceSub, Int.reduceMul, Int.reduceEq, Int.reduceNe, Int.reduceLT, Int.reduceLE, Int.reduceGT, Int.reduceGE]
  refine newI_intro fun a ha => ?_
  have hM := Mem.set_eq M a (.cells 28 [s.row] 0)
  have hle := le_new (b := .cells 28 [s.row] 0) (Mem.le_refl M) ha
  rw [row_scr, hT] at hM hle
  simp -implicitDefEqProofs (maxSteps := 1000000) (disch := omega) only [↓xsP, ↓vc_seq, xsQ, xsT, xsR, xsD, ↓reduceIte, reduceCtorEq, eq_self, ne_eq, imp_self, forall_const, Nat.reduceEqDiff, Nat.reduceAdd, Nat.reduceSub, Nat.reduceMul, Nat.reduceLT, Nat.reduceLeDiff, Nat.reduceBEq, Nat.reduceDiv, Nat.reduceMod, Int.reduceToNat, Int.reduceNeg, Int.reduceAdd, Int.reduceSub, Int.reduceMul, Int.reduceEq, Int.reduceNe, Int.reduceLT, Int.reduceLE, Int.reduceGT, Int.reduceGE, hT]
  generalize M.set a _ = N at hM hle ⊢
  refine xquiet (by kernel_rfl) (by kernel_rfl) (by kernel_rfl) ?_
  simp -implicitDefEqProofs (maxSteps := 1000000) (disch := omega) only [↓xsP, ↓vc_seq, xsQ, xsT, xsR, xsD, ↓reduceIte, reduceCtorEq, eq_self, ne_eq, imp_self, forall_const, Nat.reduceEqDiff, Nat.reduceAdd, Nat.reduceSub, Nat.reduceMul, Nat.reduceLT, Nat.reduceLeDiff, Nat.reduceBEq, Nat.reduceDiv, Nat.reduceMod, Int.reduceToNat, Int.reduceNeg, Int.reduceAdd, Int.reduceSub, Int.reduceMul, Int.reduceEq, Int.reduceNe, Int.reduceLT, Int.reduceLE, Int.reduceGT, Int.reduceGE, hM]
  refine dcallI_of (v := .l (.int .i64 (callsN s.ops))) ?_ ?_
  · have e : [AV.agg [.int .i64 (t : Int), .int .i64 s.cells, .int .i64 s.pol.high, .int .i64 s.pol.low, .int .i64 s.pol.cont, .int .i64 s.pol.unc, .int .i64 s.pol.multi, .sl (s.beg.map Pr.row), .sl (s.ops.map oprow), .sl (s.picks.map irow)]] = [.agg s.row] := by rw [row_scr, hT]
    rw [e]
    exact calls_spec s hs _
  simp -implicitDefEqProofs (maxSteps := 1000000) (disch := omega) only [↓xsP, ↓vc_seq, xsQ, xsT, xsR, xsD, ↓reduceIte, reduceCtorEq, eq_self, ne_eq, imp_self, forall_const, Nat.reduceEqDiff, Nat.reduceAdd, Nat.reduceSub, Nat.reduceMul, Nat.reduceLT, Nat.reduceLeDiff, Nat.reduceBEq, Nat.reduceDiv, Nat.reduceMod, Int.reduceToNat, Int.reduceNeg, Int.reduceAdd, Int.reduceSub, Int.reduceMul, Int.reduceEq, Int.reduceNe, Int.reduceLT, Int.reduceLE, Int.reduceGT, Int.reduceGE, hM, n1, n2, n3]
  exact fin_ok hle ⟨rfl, rfl⟩
end Go.X

/- Bounds: how much room; what every program must know. -/

set_option linter.unusedVariables false
set_option linter.unusedSimpArgs false
set_option maxHeartbeats 20000000
set_option maxRecDepth 100000
namespace Go.X
open Go.Proofs.Try (prog)

noncomputable def needS (s : Scr) : Nat := needN (callsN (cleanS s).ops) (thrN s) (cleanS s).beg.length
noncomputable def cellsS (s : Scr) : Int := min ((needS s : Nat) : Int) 60000
theorem mm_min2 (a b : Int) : (if a < b then a else b) = min a b := by omega
theorem cells_spec (s : Scr) (hs : SmS s) (M : Mem) : XCalls Go.Proofs.Try.prog 19 [.agg s.row] M fun r M' => r = .l (.int .i64 (cellsS s)) ∧ M' = M := by
  refine xcalls_intro (rs := [.tmp 2]) Go.Proofs.Try.func19 rfl (by kernel_rfl) rfl rfl (by kernel_rfl) (by simp) ?_
  simp -implicitDefEqProofs (maxSteps := 1000000) (disch := omega) only [↓xsP, ↓vc_seq, xsQ, xsT, xsR, xsD, ↓reduceIte, reduceCtorEq, eq_self, ne_eq, imp_self, forall_const, Nat.reduceEqDiff, Nat.reduceAdd, Nat.reduceSub, Nat.reduceMul, Nat.reduceLT, Nat.reduceLeDiff, Nat.reduceBEq, Nat.reduceDiv, Nat.reduceMod, Int.reduceToNat, Int.reduceNeg, Int.reduceAdd, Int.reduceSub, Int.reduceMul, Int.reduceEq, Int.reduceNe, Int.reduceLT, Int.reduceLE, Int.reduceGT, Int.reduceGE]
  refine newI_intro fun a ha => ?_
  simp -implicitDefEqProofs (maxSteps := 1000000) (disch := omega) only [↓xsP, ↓vc_seq, xsQ, xsT, xsR, xsD, ↓reduceIte, reduceCtorEq, eq_self, ne_eq, imp_self, forall_const, Nat.reduceEqDiff, Nat.reduceAdd, Nat.reduceSub, Nat.reduceMul, Nat.reduceLT, Nat.reduceLeDiff, Nat.reduceBEq, Nat.reduceDiv, Nat.reduceMod, Int.reduceToNat, Int.reduceNeg, Int.reduceAdd, Int.reduceSub, Int.reduceMul, Int.reduceEq, Int.reduceNe, Int.reduceLT, Int.reduceLE, Int.reduceGT, Int.reduceGE]
  refine call_of (clean_spec s hs _) ?_
  simp -implicitDefEqProofs (maxSteps := 1000000) (disch := omega) only [↓xsP, ↓vc_seq, xsQ, xsT, xsR, xsD, ↓reduceIte, reduceCtorEq, eq_self, ne_eq, imp_self, forall_const, Nat.reduceEqDiff, Nat.reduceAdd, Nat.reduceSub, Nat.reduceMul, Nat.reduceLT, Nat.reduceLeDiff, Nat.reduceBEq, Nat.reduceDiv, Nat.reduceMod, Int.reduceToNat, Int.reduceNeg, Int.reduceAdd, Int.reduceSub, Int.reduceMul, Int.reduceEq, Int.reduceNe, Int.reduceLT, Int.reduceLE, Int.reduceGT, Int.reduceGE]
  refine call_of (need_spec (cleanS s) (thrN s) (clean_B s) (sm_ok (clean_ok s)) _) ?_
  simp -implicitDefEqProofs (maxSteps := 1000000) (disch := omega) only [↓xsP, ↓vc_seq, xsQ, xsT, xsR, xsD, ↓reduceIte, reduceCtorEq, eq_self, ne_eq, imp_self, forall_const, Nat.reduceEqDiff, Nat.reduceAdd, Nat.reduceSub, Nat.reduceMul, Nat.reduceLT, Nat.reduceLeDiff, Nat.reduceBEq, Nat.reduceDiv, Nat.reduceMod, Int.reduceToNat, Int.reduceNeg, Int.reduceAdd, Int.reduceSub, Int.reduceMul, Int.reduceEq, Int.reduceNe, Int.reduceLT, Int.reduceLE, Int.reduceGT, Int.reduceGE, mm_min]
  exact fin_ok (le_new (Mem.le_refl _) ha) ⟨by rw [cellsS, needS, Int.min_comm], rfl⟩
theorem cellsR_spec (s : Scr) (hs : SmS s) (M : Mem) : XCalls Go.Proofs.Try.prog 20 [.agg s.row] M fun r M' => r = .l (.int .i64 (cellsS s)) ∧ M' = M := by
  refine xcalls_intro (rs := [.tmp 2]) Go.Proofs.Try.func20 rfl (by kernel_rfl) rfl rfl (by kernel_rfl) (by simp) ?_
  obtain ⟨hT, h6, hc, hb⟩ := clean_B s
  obtain ⟨n1, n2, n3⟩ := needN_int hc h6 hb
  have hsm := sm_ok (clean_ok s)
  have hcs : cellsS s = min ((needN (callsN (cleanS s).ops) (thrN s) (cleanS s).beg.length : Nat) : Int) 60000 := rfl
  simp -implicitDefEqProofs (maxSteps := 1000000) (disch := omega) only [↓xsP, ↓vc_seq, xsQ, xsT, xsR, xsD, ↓reduceIte, reduceCtorEq, eq_self, ne_eq, imp_self, forall_const, Nat.reduceEqDiff, Nat.reduceAdd, Nat.reduceSub, Nat.reduceMul, Nat.reduceLT, Nat.reduceLeDiff, Nat.reduceBEq, Nat.reduceDiv, Nat.reduceMod, Int.reduceToNat, Int.reduceNeg, Int.reduceAdd, Int.reduceSub, Int.reduceMul, Int.reduceEq, Int.reduceNe, Int.reduceLT, Int.reduceLE, Int.reduceGT, Int.reduceGE]
  refine newI_intro fun a ha => ?_
  simp -implicitDefEqProofs (maxSteps := 1000000) (disch := omega) only [↓xsP, ↓vc_seq, xsQ, xsT, xsR, xsD, ↓reduceIte, reduceCtorEq, eq_self, ne_eq, imp_self, forall_const, Nat.reduceEqDiff, Nat.reduceAdd, Nat.reduceSub, Nat.reduceMul, Nat.reduceLT, Nat.reduceLeDiff, Nat.reduceBEq, Nat.reduceDiv, Nat.reduceMod, Int.reduceToNat, Int.reduceNeg, Int.reduceAdd, Int.reduceSub, Int.reduceMul, Int.reduceEq, Int.reduceNe, Int.reduceLT, Int.reduceLE, Int.reduceGT, Int.reduceGE]
  refine call_of (cleanR_spec s hs _) ?_
  rw [hcs]
  generalize cleanS s = c at hT hc hb n1 n2 n3 hsm ⊢
  generalize thrN s = t at hT h6 n1 n2 n3 ⊢
  simp -implicitDefEqProofs (maxSteps := 1000000) (disch := omega) only [↓xsP, ↓vc_seq, xsQ, xsT, xsR, xsD, ↓reduceIte, reduceCtorEq, eq_self, ne_eq, imp_self, forall_const, Nat.reduceEqDiff, Nat.reduceAdd, Nat.reduceSub, Nat.reduceMul, Nat.reduceLT, Nat.reduceLeDiff, Nat.reduceBEq, Nat.reduceDiv, Nat.reduceMod, Int.reduceToNat, Int.reduceNeg, Int.reduceAdd, Int.reduceSub, Int.reduceMul, Int.reduceEq, Int.reduceNe, Int.reduceLT, Int.reduceLE, Int.reduceGT, Int.reduceGE, hT]
  have hM := Mem.set_eq M a (.cells 28 [c.row] 0)
  have hle := le_new (b := .cells 28 [c.row] 0) (Mem.le_refl M) ha
  rw [row_scr, hT] at hM hle
  generalize M.set a _ = N at hM hle ⊢
  refine xquiet (by kernel_rfl) (by kernel_rfl) (by kernel_rfl) ?_
  simp -implicitDefEqProofs (maxSteps := 1000000) (disch := omega) only [↓xsP, ↓vc_seq, xsQ, xsT, xsR, xsD, ↓reduceIte, reduceCtorEq, eq_self, ne_eq, imp_self, forall_const, Nat.reduceEqDiff, Nat.reduceAdd, Nat.reduceSub, Nat.reduceMul, Nat.reduceLT, Nat.reduceLeDiff, Nat.reduceBEq, Nat.reduceDiv, Nat.reduceMod, Int.reduceToNat, Int.reduceNeg, Int.reduceAdd, Int.reduceSub, Int.reduceMul, Int.reduceEq, Int.reduceNe, Int.reduceLT, Int.reduceLE, Int.reduceGT, Int.reduceGE, hM]
  refine dcallI_of (v := .l (.int .i64 (callsN c.ops))) ?_ ?_
  · have e : [AV.agg [.int .i64 (t : Int), .int .i64 c.cells, .int .i64 c.pol.high, .int .i64 c.pol.low, .int .i64 c.pol.cont, .int .i64 c.pol.unc, .int .i64 c.pol.multi, .sl (c.beg.map Pr.row), .sl (c.ops.map oprow), .sl (c.picks.map irow)]] = [.agg c.row] := by rw [row_scr, hT]
    rw [e]
    exact callsOf_spec c hsm _
  simp -implicitDefEqProofs (maxSteps := 1000000) (disch := omega) only [↓xsP, ↓vc_seq, xsQ, xsT, xsR, xsD, ↓reduceIte, reduceCtorEq, eq_self, ne_eq, imp_self, forall_const, Nat.reduceEqDiff, Nat.reduceAdd, Nat.reduceSub, Nat.reduceMul, Nat.reduceLT, Nat.reduceLeDiff, Nat.reduceBEq, Nat.reduceDiv, Nat.reduceMod, Int.reduceToNat, Int.reduceNeg, Int.reduceAdd, Int.reduceSub, Int.reduceMul, Int.reduceEq, Int.reduceNe, Int.reduceLT, Int.reduceLE, Int.reduceGT, Int.reduceGE, hM, n1, n2, n3, mm_min]
  exact fin_ok hle ⟨by rw [Int.min_comm], rfl⟩
noncomputable def fitsB (s : Scr) : Bool := decide ((cleanS s).cells ≥ cellsS s) && decide (cellsS s < 60000)
theorem cellsS_clean (s : Scr) : cellsS (cleanS s) = cellsS s := by
  have h := clean_id (clean_ok s)
  have ht : thrN (cleanS s) = thrN s := by
    have := congrArg Scr.threads h
    have h1 : ((thrN (cleanS s) : Nat) : Int) = ((thrN s : Nat) : Int) := this
    omega
  rw [cellsS, needS, h, ht, cellsS, needS]
theorem fits_spec (s : Scr) (hs : SmS s) (M : Mem) : XCalls Go.Proofs.Try.prog 21 [.agg s.row] M fun r M' => r = .l (.bool (fitsB s)) ∧ M' = M := by
  refine xcalls_intro (rs := [.tmp 2]) Go.Proofs.Try.func21 rfl (by kernel_rfl) rfl rfl (by kernel_rfl) (by simp) ?_
  have hsm := sm_ok (clean_ok s)
  have hcc := cellsS_clean s
  simp -implicitDefEqProofs (maxSteps := 1000000) (disch := omega) only [↓xsP, ↓vc_seq, xsQ, xsT, xsR, xsD, ↓reduceIte, reduceCtorEq, eq_self, ne_eq, imp_self, forall_const, Nat.reduceEqDiff, Nat.reduceAdd, Nat.reduceSub, Nat.reduceMul, Nat.reduceLT, Nat.reduceLeDiff, Nat.reduceBEq, Nat.reduceDiv, Nat.reduceMod, Int.reduceToNat, Int.reduceNeg, Int.reduceAdd, Int.reduceSub, Int.reduceMul, Int.reduceEq, Int.reduceNe, Int.reduceLT, Int.reduceLE, Int.reduceGT, Int.reduceGE]
  refine newI_intro fun a ha => ?_
  simp -implicitDefEqProofs (maxSteps := 1000000) (disch := omega) only [↓xsP, ↓vc_seq, xsQ, xsT, xsR, xsD, ↓reduceIte, reduceCtorEq, eq_self, ne_eq, imp_self, forall_const, Nat.reduceEqDiff, Nat.reduceAdd, Nat.reduceSub, Nat.reduceMul, Nat.reduceLT, Nat.reduceLeDiff, Nat.reduceBEq, Nat.reduceDiv, Nat.reduceMod, Int.reduceToNat, Int.reduceNeg, Int.reduceAdd, Int.reduceSub, Int.reduceMul, Int.reduceEq, Int.reduceNe, Int.reduceLT, Int.reduceLE, Int.reduceGT, Int.reduceGE]
  refine call_of (clean_spec s hs _) ?_
  rw [fitsB, ← hcc]
  generalize cleanS s = c at hsm hcc ⊢
  simp -implicitDefEqProofs (maxSteps := 1000000) (disch := omega) only [↓xsP, ↓vc_seq, xsQ, xsT, xsR, xsD, ↓reduceIte, reduceCtorEq, eq_self, ne_eq, imp_self, forall_const, Nat.reduceEqDiff, Nat.reduceAdd, Nat.reduceSub, Nat.reduceMul, Nat.reduceLT, Nat.reduceLeDiff, Nat.reduceBEq, Nat.reduceDiv, Nat.reduceMod, Int.reduceToNat, Int.reduceNeg, Int.reduceAdd, Int.reduceSub, Int.reduceMul, Int.reduceEq, Int.reduceNe, Int.reduceLT, Int.reduceLE, Int.reduceGT, Int.reduceGE]
  have hM := Mem.set_eq M a (.cells 28 [c.row] 0)
  have hle := le_new (b := .cells 28 [c.row] 0) (Mem.le_refl M) ha
  rw [row_scr] at hM hle
  generalize M.set a _ = N at hM hle ⊢
  refine xquiet (by kernel_rfl) (by kernel_rfl) (by kernel_rfl) ?_
  simp -implicitDefEqProofs (maxSteps := 1000000) (disch := omega) only [↓xsP, ↓vc_seq, xsQ, xsT, xsR, xsD, ↓reduceIte, reduceCtorEq, eq_self, ne_eq, imp_self, forall_const, Nat.reduceEqDiff, Nat.reduceAdd, Nat.reduceSub, Nat.reduceMul, Nat.reduceLT, Nat.reduceLeDiff, Nat.reduceBEq, Nat.reduceDiv, Nat.reduceMod, Int.reduceToNat, Int.reduceNeg, Int.reduceAdd, Int.reduceSub, Int.reduceMul, Int.reduceEq, Int.reduceNe, Int.reduceLT, Int.reduceLE, Int.reduceGT, Int.reduceGE, hM]
  refine dcallI_of (cells_spec c hsm _) ?_
  simp -implicitDefEqProofs (maxSteps := 1000000) (disch := omega) only [↓xsP, ↓vc_seq, xsQ, xsT, xsR, xsD, ↓reduceIte, reduceCtorEq, eq_self, ne_eq, imp_self, forall_const, Nat.reduceEqDiff, Nat.reduceAdd, Nat.reduceSub, Nat.reduceMul, Nat.reduceLT, Nat.reduceLeDiff, Nat.reduceBEq, Nat.reduceDiv, Nat.reduceMod, Int.reduceToNat, Int.reduceNeg, Int.reduceAdd, Int.reduceSub, Int.reduceMul, Int.reduceEq, Int.reduceNe, Int.reduceLT, Int.reduceLE, Int.reduceGT, Int.reduceGE, hM]
  refine gI_prop (fun h => ?_) (fun h => ?_)
  · simp -implicitDefEqProofs (maxSteps := 1000000) (disch := omega) only [↓xsP, ↓vc_seq, xsQ, xsT, xsR, xsD, ↓reduceIte, reduceCtorEq, eq_self, ne_eq, imp_self, forall_const, Nat.reduceEqDiff, Nat.reduceAdd, Nat.reduceSub, Nat.reduceMul, Nat.reduceLT, Nat.reduceLeDiff, Nat.reduceBEq, Nat.reduceDiv, Nat.reduceMod, Int.reduceToNat, Int.reduceNeg, Int.reduceAdd, Int.reduceSub, Int.reduceMul, Int.reduceEq, Int.reduceNe, Int.reduceLT, Int.reduceLE, Int.reduceGT, Int.reduceGE, h, hM]
    refine dcallI_of (cells_spec c hsm _) ?_
    simp -implicitDefEqProofs (maxSteps := 1000000) (disch := omega) only [↓xsP, ↓vc_seq, xsQ, xsT, xsR, xsD, ↓reduceIte, reduceCtorEq, eq_self, ne_eq, imp_self, forall_const, Nat.reduceEqDiff, Nat.reduceAdd, Nat.reduceSub, Nat.reduceMul, Nat.reduceLT, Nat.reduceLeDiff, Nat.reduceBEq, Nat.reduceDiv, Nat.reduceMod, Int.reduceToNat, Int.reduceNeg, Int.reduceAdd, Int.reduceSub, Int.reduceMul, Int.reduceEq, Int.reduceNe, Int.reduceLT, Int.reduceLE, Int.reduceGT, Int.reduceGE, h]
    exact fin_ok hle ⟨by rw [decide_eq_true h, Bool.true_and], rfl⟩
  · simp -implicitDefEqProofs (maxSteps := 1000000) (disch := omega) only [↓xsP, ↓vc_seq, xsQ, xsT, xsR, xsD, ↓reduceIte, reduceCtorEq, eq_self, ne_eq, imp_self, forall_const, Nat.reduceEqDiff, Nat.reduceAdd, Nat.reduceSub, Nat.reduceMul, Nat.reduceLT, Nat.reduceLeDiff, Nat.reduceBEq, Nat.reduceDiv, Nat.reduceMod, Int.reduceToNat, Int.reduceNeg, Int.reduceAdd, Int.reduceSub, Int.reduceMul, Int.reduceEq, Int.reduceNe, Int.reduceLT, Int.reduceLE, Int.reduceGT, Int.reduceGE, h]
    exact fin_ok hle ⟨by rw [decide_eq_false h, Bool.false_and], rfl⟩
theorem fitsR_spec (s : Scr) (hs : SmS s) (M : Mem) : XCalls Go.Proofs.Try.prog 22 [.agg s.row] M fun r M' => r = .l (.bool (fitsB s)) ∧ M' = M := by
  refine xcalls_intro (rs := [.tmp 2]) Go.Proofs.Try.func22 rfl (by kernel_rfl) rfl rfl (by kernel_rfl) (by simp) ?_
  simp -implicitDefEqProofs (maxSteps := 1000000) (disch := omega) only [↓xsP, ↓vc_seq, xsQ, xsT, xsR, xsD, ↓reduceIte, reduceCtorEq, eq_self, ne_eq, imp_self, forall_const, Nat.reduceEqDiff, Nat.reduceAdd, Nat.reduceSub, Nat.reduceMul, Nat.reduceLT, Nat.reduceLeDiff, Nat.reduceBEq, Nat.reduceDiv, Nat.reduceMod, Int.reduceToNat, Int.reduceNeg, Int.reduceAdd, Int.reduceSub, Int.reduceMul, Int.reduceEq, Int.reduceNe, Int.reduceLT, Int.reduceLE, Int.reduceGT, Int.reduceGE]
  refine newI_intro fun a ha => ?_
  simp -implicitDefEqProofs (maxSteps := 1000000) (disch := omega) only [↓xsP, ↓vc_seq, xsQ, xsT, xsR, xsD, ↓reduceIte, reduceCtorEq, eq_self, ne_eq, imp_self, forall_const, Nat.reduceEqDiff, Nat.reduceAdd, Nat.reduceSub, Nat.reduceMul, Nat.reduceLT, Nat.reduceLeDiff, Nat.reduceBEq, Nat.reduceDiv, Nat.reduceMod, Int.reduceToNat, Int.reduceNeg, Int.reduceAdd, Int.reduceSub, Int.reduceMul, Int.reduceEq, Int.reduceNe, Int.reduceLT, Int.reduceLE, Int.reduceGT, Int.reduceGE]
  refine call_of (cellsR_spec s hs _) ?_
  simp -implicitDefEqProofs (maxSteps := 1000000) (disch := omega) only [↓xsP, ↓vc_seq, xsQ, xsT, xsR, xsD, ↓reduceIte, reduceCtorEq, eq_self, ne_eq, imp_self, forall_const, Nat.reduceEqDiff, Nat.reduceAdd, Nat.reduceSub, Nat.reduceMul, Nat.reduceLT, Nat.reduceLeDiff, Nat.reduceBEq, Nat.reduceDiv, Nat.reduceMod, Int.reduceToNat, Int.reduceNeg, Int.reduceAdd, Int.reduceSub, Int.reduceMul, Int.reduceEq, Int.reduceNe, Int.reduceLT, Int.reduceLE, Int.reduceGT, Int.reduceGE]
  refine call_of (cleanR_spec s hs _) ?_
  rw [fitsB]
  generalize cleanS s = c
  simp -implicitDefEqProofs (maxSteps := 1000000) (disch := omega) only [↓xsP, ↓vc_seq, xsQ, xsT, xsR, xsD, ↓reduceIte, reduceCtorEq, eq_self, ne_eq, imp_self, forall_const, Nat.reduceEqDiff, Nat.reduceAdd, Nat.reduceSub, Nat.reduceMul, Nat.reduceLT, Nat.reduceLeDiff, Nat.reduceBEq, Nat.reduceDiv, Nat.reduceMod, Int.reduceToNat, Int.reduceNeg, Int.reduceAdd, Int.reduceSub, Int.reduceMul, Int.reduceEq, Int.reduceNe, Int.reduceLT, Int.reduceLE, Int.reduceGT, Int.reduceGE]
  refine gI_prop (fun h => ?_) (fun h => ?_)
  · simp -implicitDefEqProofs (maxSteps := 1000000) (disch := omega) only [↓xsP, ↓vc_seq, xsQ, xsT, xsR, xsD, ↓reduceIte, reduceCtorEq, eq_self, ne_eq, imp_self, forall_const, Nat.reduceEqDiff, Nat.reduceAdd, Nat.reduceSub, Nat.reduceMul, Nat.reduceLT, Nat.reduceLeDiff, Nat.reduceBEq, Nat.reduceDiv, Nat.reduceMod, Int.reduceToNat, Int.reduceNeg, Int.reduceAdd, Int.reduceSub, Int.reduceMul, Int.reduceEq, Int.reduceNe, Int.reduceLT, Int.reduceLE, Int.reduceGT, Int.reduceGE, h]
    exact fin_ok (le_new (Mem.le_refl _) ha) ⟨by rw [decide_eq_true h, Bool.true_and], rfl⟩
  · simp -implicitDefEqProofs (maxSteps := 1000000) (disch := omega) only [↓xsP, ↓vc_seq, xsQ, xsT, xsR, xsD, ↓reduceIte, reduceCtorEq, eq_self, ne_eq, imp_self, forall_const, Nat.reduceEqDiff, Nat.reduceAdd, Nat.reduceSub, Nat.reduceMul, Nat.reduceLT, Nat.reduceLeDiff, Nat.reduceBEq, Nat.reduceDiv, Nat.reduceMod, Int.reduceToNat, Int.reduceNeg, Int.reduceAdd, Int.reduceSub, Int.reduceMul, Int.reduceEq, Int.reduceNe, Int.reduceLT, Int.reduceLE, Int.reduceGT, Int.reduceGE, h]
    exact fin_ok (le_new (Mem.le_refl _) ha) ⟨by rw [decide_eq_false h, Bool.false_and], rfl⟩
def aw24 : Scr := ⟨1, 5000, ⟨0, 0, 0, 0, 0⟩, [], [[⟨7, 0, 0, 0⟩]], []⟩
theorem aw24_sm : SmS aw24 := ⟨by decide, by decide, by decide, by decide, by decide⟩
theorem aw24_cells : cellsS aw24 = 1004 ∧ fitsB aw24 = true := by
  have h1 : (cleanS aw24).ops = [[⟨7, 0, 0, 0⟩]] := by
    show rowsN aw24 1 = _
    decide
  have h2 : (cleanS aw24).beg = [] := rfl
  have h3 : cellsS aw24 = 1004 := by
    rw [cellsS, needS, h1, h2]
    decide
  refine ⟨h3, ?_⟩
  rw [fitsB, h3]
  have h4 : (cleanS aw24).cells = 5000 := by decide
  rw [h4]
  decide
theorem awake24_spec (M : Mem) : XCalls Go.Proofs.Try.prog 16 [] M fun r M' => r = .l (.bool true) ∧ M' = M := by
  refine xcalls_intro (rs := [.tmp 0]) Go.Proofs.Try.func16 rfl (by kernel_rfl) rfl rfl (by kernel_rfl) (by simp) ?_
  obtain ⟨c1, c2⟩ := aw24_cells
  simp -implicitDefEqProofs (maxSteps := 1000000) (disch := omega) only [↓xsP, ↓vc_seq, xsQ, xsT, xsR, xsD, ↓reduceIte, reduceCtorEq, eq_self, ne_eq, imp_self, forall_const, Nat.reduceEqDiff, Nat.reduceAdd, Nat.reduceSub, Nat.reduceMul, Nat.reduceLT, Nat.reduceLeDiff, Nat.reduceBEq, Nat.reduceDiv, Nat.reduceMod, Int.reduceToNat, Int.reduceNeg, Int.reduceAdd, Int.reduceSub, Int.reduceMul, Int.reduceEq, Int.reduceNe, Int.reduceLT, Int.reduceLE, Int.reduceGT, Int.reduceGE]
  refine newI_intro fun p3 hp3 => ?_
  simp -implicitDefEqProofs (maxSteps := 1000000) (disch := omega) only [↓xsP, ↓vc_seq, xsQ, xsT, xsR, xsD, ↓reduceIte, reduceCtorEq, eq_self, ne_eq, imp_self, forall_const, Nat.reduceEqDiff, Nat.reduceAdd, Nat.reduceSub, Nat.reduceMul, Nat.reduceLT, Nat.reduceLeDiff, Nat.reduceBEq, Nat.reduceDiv, Nat.reduceMod, Int.reduceToNat, Int.reduceNeg, Int.reduceAdd, Int.reduceSub, Int.reduceMul, Int.reduceEq, Int.reduceNe, Int.reduceLT, Int.reduceLE, Int.reduceGT, Int.reduceGE]
  refine newI_intro fun p4 hp4 => ?_
  obtain ⟨h34, hp4'⟩ := bnd_new hp4
  simp -implicitDefEqProofs (maxSteps := 1000000) (disch := omega) only [↓xsP, ↓vc_seq, xsQ, xsT, xsR, xsD, ↓reduceIte, reduceCtorEq, eq_self, ne_eq, imp_self, forall_const, Nat.reduceEqDiff, Nat.reduceAdd, Nat.reduceSub, Nat.reduceMul, Nat.reduceLT, Nat.reduceLeDiff, Nat.reduceBEq, Nat.reduceDiv, Nat.reduceMod, Int.reduceToNat, Int.reduceNeg, Int.reduceAdd, Int.reduceSub, Int.reduceMul, Int.reduceEq, Int.reduceNe, Int.reduceLT, Int.reduceLE, Int.reduceGT, Int.reduceGE]
  refine newI_intro fun p1 hp1 => ?_
  obtain ⟨h41, hp1'⟩ := bnd_new hp1
  obtain ⟨h31, hp1''⟩ := bnd_new hp1'
  simp -implicitDefEqProofs (maxSteps := 1000000) (disch := omega) only [↓xsP, ↓vc_seq, xsQ, xsT, xsR, xsD, ↓reduceIte, reduceCtorEq, eq_self, ne_eq, imp_self, forall_const, Nat.reduceEqDiff, Nat.reduceAdd, Nat.reduceSub, Nat.reduceMul, Nat.reduceLT, Nat.reduceLeDiff, Nat.reduceBEq, Nat.reduceDiv, Nat.reduceMod, Int.reduceToNat, Int.reduceNeg, Int.reduceAdd, Int.reduceSub, Int.reduceMul, Int.reduceEq, Int.reduceNe, Int.reduceLT, Int.reduceLE, Int.reduceGT, Int.reduceGE]
  have hN : ∀ N0 : Mem, ((M.set p3 (.cells 34 [[.int .i64 7, .int .i64 0, .int .i64 0, .int .i64 0]] 0)).set p4 (.cells 32 [[.ms p3 0 1]] 0)).set p1 (.cells 28 [[.int .i64 1, .int .i64 5000, .int .i64 0, .int .i64 0, .int .i64 0, .int .i64 0, .int .i64 0, .nils, .ms p4 0 1, .nils]] 0) = N0 →
      ∃ N, GStep N0 N ∧ N p1 = some (.cells 28 [aw24.row] 0) ∧ M.le N := by
    rintro N0 rfl
    have g1 := GStep.frz_in (M := ((M.set p3 (.cells 34 [[.int .i64 7, .int .i64 0, .int .i64 0, .int .i64 0]] 0)).set p4 (.cells 32 [[.ms p3 0 1]] 0)).set p1 (.cells 28 [[.int .i64 1, .int .i64 5000, .int .i64 0, .int .i64 0, .int .i64 0, .int .i64 0, .int .i64 0, .nils, .ms p4 0 1, .nils]] 0))
      (id := p3) (out := p4) (T := 34) (keep := 0) (To := 32) (keepo := 0) (rows := [[.int .i64 7, .int .i64 0, .int .i64 0, .int .i64 0]]) (rowso := [[.ms p3 0 1]]) (by simp (disch := omega) only [Mem.set_ne, Mem.set_eq]) (by simp (disch := omega) only [Mem.set_ne, Mem.set_eq]) (by omega)
    have e1 : ([[.ms p3 0 1]].map fun r => r.map (frzL p3 [[.int .i64 7, .int .i64 0, .int .i64 0, .int .i64 0]]) : List (List Lf)) = [[.sl [[.int .i64 7, .int .i64 0, .int .i64 0, .int .i64 0]]]] := by simp [frzL]
    rw [e1] at g1
    generalize hN1 : Mem.set (Mem.set (((M.set p3 _).set p4 _).set p1 _) p3 _) p4 _ = N1 at g1
    replace hN1 := hN1.symm
    have g2 := GStep.frz_in (M := N1) (id := p4) (out := p1) (T := 32) (keep := 0) (To := 28) (keepo := 0) (rows := [[.sl [[.int .i64 7, .int .i64 0, .int .i64 0, .int .i64 0]]]]) (rowso := [[.int .i64 1, .int .i64 5000, .int .i64 0, .int .i64 0, .int .i64 0, .int .i64 0, .int .i64 0, .nils, .ms p4 0 1, .nils]])
      (by rw [hN1]; simp (disch := omega) only [Mem.set_ne, Mem.set_eq]) (by rw [hN1]; simp (disch := omega) only [Mem.set_ne, Mem.set_eq]) (by omega)
    have g3 := GStep.wk (Mem.set_eq (N1.set p4 (.cells 32 [[.sl [[.int .i64 7, .int .i64 0, .int .i64 0, .int .i64 0]]]] (max 0 1))) p1 (.cells 28 ([[.int .i64 1, .int .i64 5000, .int .i64 0, .int .i64 0, .int .i64 0, .int .i64 0, .int .i64 0, .nils, .ms p4 0 1, .nils]].map fun r => r.map (frzL p4 [[.sl [[.int .i64 7, .int .i64 0, .int .i64 0, .int .i64 0]]]])) 0))
    refine ⟨_, (g1.trans g2).trans g3, ?_, fun k bk hk => ?_⟩
    · rw [Mem.set_eq]
      simp [frzL, wkL, aw24, Scr.row, oprow, Opn.row]
    · have := lt_of_bnd hp3 hk
      rw [hN1]
      simp (disch := omega) only [Mem.set_ne, hk]
  obtain ⟨N, hg, hNp, hle⟩ := hN _ rfl
  refine callI_gs hg ?_
  rw [row_scr] at hNp
  refine call_of (steps_spec 0 1 _) ?_
  have hs0 : stepsI 0 1 = 5000 := by decide
  rw [hs0]
  simp -implicitDefEqProofs (maxSteps := 1000000) (disch := omega) only [↓xsP, ↓vc_seq, xsQ, xsT, xsR, xsD, ↓reduceIte, reduceCtorEq, eq_self, ne_eq, imp_self, forall_const, Nat.reduceEqDiff, Nat.reduceAdd, Nat.reduceSub, Nat.reduceMul, Nat.reduceLT, Nat.reduceLeDiff, Nat.reduceBEq, Nat.reduceDiv, Nat.reduceMod, Int.reduceToNat, Int.reduceNeg, Int.reduceAdd, Int.reduceSub, Int.reduceMul, Int.reduceEq, Int.reduceNe, Int.reduceLT, Int.reduceLE, Int.reduceGT, Int.reduceGE, hNp]
  refine call_of (cells_spec aw24 aw24_sm _) ?_
  rw [c1]
  simp -implicitDefEqProofs (maxSteps := 1000000) (disch := omega) only [↓xsP, ↓vc_seq, xsQ, xsT, xsR, xsD, ↓reduceIte, reduceCtorEq, eq_self, ne_eq, imp_self, forall_const, Nat.reduceEqDiff, Nat.reduceAdd, Nat.reduceSub, Nat.reduceMul, Nat.reduceLT, Nat.reduceLeDiff, Nat.reduceBEq, Nat.reduceDiv, Nat.reduceMod, Int.reduceToNat, Int.reduceNeg, Int.reduceAdd, Int.reduceSub, Int.reduceMul, Int.reduceEq, Int.reduceNe, Int.reduceLT, Int.reduceLE, Int.reduceGT, Int.reduceGE, hNp]
  refine call_of (put_spec 3 _) ?_
  have hp0 : putI 3 = 8 := by decide
  rw [hp0]
  simp -implicitDefEqProofs (maxSteps := 1000000) (disch := omega) only [↓xsP, ↓vc_seq, xsQ, xsT, xsR, xsD, ↓reduceIte, reduceCtorEq, eq_self, ne_eq, imp_self, forall_const, Nat.reduceEqDiff, Nat.reduceAdd, Nat.reduceSub, Nat.reduceMul, Nat.reduceLT, Nat.reduceLeDiff, Nat.reduceBEq, Nat.reduceDiv, Nat.reduceMod, Int.reduceToNat, Int.reduceNeg, Int.reduceAdd, Int.reduceSub, Int.reduceMul, Int.reduceEq, Int.reduceNe, Int.reduceLT, Int.reduceLE, Int.reduceGT, Int.reduceGE, hNp]
  refine call_of (fits_spec aw24 aw24_sm _) ?_
  rw [c2]
  simp -implicitDefEqProofs (maxSteps := 1000000) (disch := omega) only [↓xsP, ↓vc_seq, xsQ, xsT, xsR, xsD, ↓reduceIte, reduceCtorEq, eq_self, ne_eq, imp_self, forall_const, Nat.reduceEqDiff, Nat.reduceAdd, Nat.reduceSub, Nat.reduceMul, Nat.reduceLT, Nat.reduceLeDiff, Nat.reduceBEq, Nat.reduceDiv, Nat.reduceMod, Int.reduceToNat, Int.reduceNeg, Int.reduceAdd, Int.reduceSub, Int.reduceMul, Int.reduceEq, Int.reduceNe, Int.reduceLT, Int.reduceLE, Int.reduceGT, Int.reduceGE, hNp]
  exact fin_ok hle ⟨rfl, rfl⟩
end Go.X
