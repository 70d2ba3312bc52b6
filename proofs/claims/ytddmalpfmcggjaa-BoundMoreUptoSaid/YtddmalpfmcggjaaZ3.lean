/- Texts joined: Va Vb Vc Vd Ve Vf Ta Tb Tc Td Te Ma Tf Wd Mb Mc Vg. -/
import Derived.Test.YtddmalpfmcggjaaZ2

/- What leaf's small functions do: Find, IndexFunc, Clone. -/


set_option linter.unusedVariables false
set_option linter.unusedSimpArgs false
set_option maxHeartbeats 20000000
set_option maxRecDepth 100000
namespace Go.X
open Go.Proofs.Try (prog)

/-- What may be said when a call is over, once the ghost has been turned. -/
theorem XCalls.fin {P : Program} {f : FuncId} {args : List AV} {M : Mem} {K K' : AV → Mem → Prop} (h : XCalls P f args M K) (hk : ∀ v M', K v M' → XFin P v M' K') : XCalls P f args M K' := by
  refine ⟨h.1, fun g w vs hP hA hR => ?_⟩
  refine (h.2 g w vs hP hA hR).mono ?_
  rintro e w' ⟨rv, v, g', M', rfl, hK, hev, hc, hR'⟩
  obtain ⟨g2, v', M2, h1, h2, h3, h4⟩ := hk v M' hK g' w' rv (hev.P.trans hP) hc hR'
  exact ⟨rv, v', g2, M2, rfl, h1, hev.trans h2, h3, h4⟩

/-- A slice of pairs, kept or of a live block. -/
def SrcIs (M : Mem) (s : Lf) (l : List Pr) : Prop := s = .sl (l.map Pr.row) ∨ ∃ id keep, s = .ms id 0 l.length ∧ M id = some (.cells 38 (l.map Pr.row) keep)
theorem SrcIs.le {M M' : Mem} {s : Lf} {l : List Pr} (h : SrcIs M s l) (hle : M.le M') : SrcIs M' s l := by
  rcases h with h | ⟨id, keep, h, h2⟩
  · exact .inl h
  · exact .inr ⟨id, keep, h, hle _ _ h2⟩

theorem findClo_spec (p : Pr) (id : Nat) (k : Int) (M : Mem) {keep : Nat} (hM : M id = some (.cells 3 [[.int .i64 k]] keep)) :
    XCalls Go.Proofs.Try.prog 71 [.agg p.row, .l (.ptr id 0 0)] M fun r M' => r = .l (.bool (decide (p.key = k))) ∧ M' = M := by
  refine xcalls_intro (rs := [.tmp 3]) Go.Proofs.Try.func71 rfl (by kernel_rfl) rfl rfl (by kernel_rfl) (by simp) ?_
  simp -implicitDefEqProofs (maxSteps := 1000000) (disch := omega) only [↓xsP, ↓vc_seq, xsQ, xsT, xsR, xsD, ↓reduceIte, reduceCtorEq, eq_self, ne_eq, imp_self, forall_const, Nat.reduceEqDiff, Nat.reduceAdd, Nat.reduceSub, Nat.reduceMul, Nat.reduceLT, Nat.reduceLeDiff, Nat.reduceBEq, Nat.reduceDiv, Nat.reduceMod, Int.reduceToNat, Int.reduceNeg, Int.reduceAdd, Int.reduceSub, Int.reduceMul, Int.reduceEq, Int.reduceNe, Int.reduceLT, Int.reduceLE, Int.reduceGT, Int.reduceGE]
  refine newI_intro fun id2 hid2 => ?_
  have hlt : id < id2 := lt_of_bnd hid2 hM
  simp -implicitDefEqProofs (maxSteps := 1000000) (disch := omega) only [↓xsP, ↓vc_seq, xsQ, xsT, xsR, xsD, ↓reduceIte, reduceCtorEq, eq_self, ne_eq, imp_self, forall_const, Nat.reduceEqDiff, Nat.reduceAdd, Nat.reduceSub, Nat.reduceMul, Nat.reduceLT, Nat.reduceLeDiff, Nat.reduceBEq, Nat.reduceDiv, Nat.reduceMod, Int.reduceToNat, Int.reduceNeg, Int.reduceAdd, Int.reduceSub, Int.reduceMul, Int.reduceEq, Int.reduceNe, Int.reduceLT, Int.reduceLE, Int.reduceGT, Int.reduceGE, hM]
  exact fin_ok (le_new (Mem.le_refl _) hid2) ⟨rfl, rfl⟩

theorem withinClo_spec (p : Pr) (id id' : Nat) (lo hi : Int) (M : Mem) {keep keep' : Nat} (hM : M id = some (.cells 3 [[.int .i64 lo]] keep)) (hM' : M id' = some (.cells 3 [[.int .i64 hi]] keep')) :
    XCalls Go.Proofs.Try.prog 66 [.agg p.row, .l (.ptr id 0 0), .l (.ptr id' 0 0)] M fun r M' => r = .l (.bool (decide (p.key < lo) || decide (p.key > hi))) ∧ M' = M := by
  refine xcalls_intro (rs := [.tmp 4]) Go.Proofs.Try.func66 rfl (by kernel_rfl) rfl rfl (by kernel_rfl) (by simp) ?_
  simp -implicitDefEqProofs (maxSteps := 1000000) (disch := omega) only [↓xsP, ↓vc_seq, xsQ, xsT, xsR, xsD, ↓reduceIte, reduceCtorEq, eq_self, ne_eq, imp_self, forall_const, Nat.reduceEqDiff, Nat.reduceAdd, Nat.reduceSub, Nat.reduceMul, Nat.reduceLT, Nat.reduceLeDiff, Nat.reduceBEq, Nat.reduceDiv, Nat.reduceMod, Int.reduceToNat, Int.reduceNeg, Int.reduceAdd, Int.reduceSub, Int.reduceMul, Int.reduceEq, Int.reduceNe, Int.reduceLT, Int.reduceLE, Int.reduceGT, Int.reduceGE]
  refine newI_intro fun id2 hid2 => ?_
  have hlt : id < id2 := lt_of_bnd hid2 hM
  have hlt' : id' < id2 := lt_of_bnd hid2 hM'
  simp -implicitDefEqProofs (maxSteps := 1000000) (disch := omega) only [↓xsP, ↓vc_seq, xsQ, xsT, xsR, xsD, ↓reduceIte, reduceCtorEq, eq_self, ne_eq, imp_self, forall_const, Nat.reduceEqDiff, Nat.reduceAdd, Nat.reduceSub, Nat.reduceMul, Nat.reduceLT, Nat.reduceLeDiff, Nat.reduceBEq, Nat.reduceDiv, Nat.reduceMod, Int.reduceToNat, Int.reduceNeg, Int.reduceAdd, Int.reduceSub, Int.reduceMul, Int.reduceEq, Int.reduceNe, Int.reduceLT, Int.reduceLE, Int.reduceGT, Int.reduceGE, hM, hM']
  refine gI_prop_f (fun h => ?_) (fun h => ?_)
  · simp -implicitDefEqProofs (maxSteps := 1000000) (disch := omega) only [↓xsP, ↓vc_seq, xsQ, xsT, xsR, xsD, ↓reduceIte, reduceCtorEq, eq_self, ne_eq, imp_self, forall_const, Nat.reduceEqDiff, Nat.reduceAdd, Nat.reduceSub, Nat.reduceMul, Nat.reduceLT, Nat.reduceLeDiff, Nat.reduceBEq, Nat.reduceDiv, Nat.reduceMod, Int.reduceToNat, Int.reduceNeg, Int.reduceAdd, Int.reduceSub, Int.reduceMul, Int.reduceEq, Int.reduceNe, Int.reduceLT, Int.reduceLE, Int.reduceGT, Int.reduceGE, hM, hM', h]
    refine fin_ok (le_new (Mem.le_refl _) hid2) ⟨?_, rfl⟩
    simp [h]
  · simp -implicitDefEqProofs (maxSteps := 1000000) (disch := omega) only [↓xsP, ↓vc_seq, xsQ, xsT, xsR, xsD, ↓reduceIte, reduceCtorEq, eq_self, ne_eq, imp_self, forall_const, Nat.reduceEqDiff, Nat.reduceAdd, Nat.reduceSub, Nat.reduceMul, Nat.reduceLT, Nat.reduceLeDiff, Nat.reduceBEq, Nat.reduceDiv, Nat.reduceMod, Int.reduceToNat, Int.reduceNeg, Int.reduceAdd, Int.reduceSub, Int.reduceMul, Int.reduceEq, Int.reduceNe, Int.reduceLT, Int.reduceLE, Int.reduceGT, Int.reduceGE, hM, hM', h]
    refine fin_ok (le_new (Mem.le_refl _) hid2) ⟨?_, rfl⟩
    simp [h]

/-- The first place from i on of what is looked for; -1: none. -/
def pidx (q : Pr → Bool) : List Pr → Nat → Int
  | [], _ => -1
  | p :: r, i => if q p then i else pidx q r (i + 1)

theorem index_spec (l : List Pr) (hl : l.length ≤ 140737488355328) (s : Lf) (M : Mem) (hs : SrcIs M s l) (f : FuncId) (caps : List Lf) (q : Pr → Bool) (hq : ∀ p, XCalls Go.Proofs.Try.prog f ([.agg p.row] ++ caps.map .l) M fun r M' => r = .l (.bool (q p)) ∧ M' = M) :
    XCalls Go.Proofs.Try.prog 70 [.l s, .l (.clo f caps)] M fun r M' => r = .l (.int .i64 (pidx q l 0)) ∧ M' = M := by
  refine xcalls_intro (rs := [.tmp 4]) Go.Proofs.Try.func70 rfl (by kernel_rfl) rfl rfl (by kernel_rfl) (by simp) ?_
  have hstep : ∀ i, i < l.length → l.drop i = l.getD i default :: l.drop (i + 1) := fun i hi => by
    rw [List.drop_eq_getElem_cons hi, List.getD_eq_getElem?_getD, List.getElem?_eq_getElem hi, Option.getD_some]
  have inv0 : ∀ i, (i : Nat) = 0 → pidx q l 0 = pidx q (l.drop i) i := fun i h => by subst h; rfl
  rcases hs with rfl | ⟨id, keep, rfl, hM⟩
  · simp -implicitDefEqProofs (maxSteps := 1000000) (disch := omega) only [↓xsP, ↓vc_seq, xsQ, xsT, xsR, xsD, ↓reduceIte, reduceCtorEq, eq_self, ne_eq, imp_self, forall_const, Nat.reduceEqDiff, Nat.reduceAdd, Nat.reduceSub, Nat.reduceMul, Nat.reduceLT, Nat.reduceLeDiff, Nat.reduceBEq, Nat.reduceDiv, Nat.reduceMod, Int.reduceToNat, Int.reduceNeg, Int.reduceAdd, Int.reduceSub, Int.reduceMul, Int.reduceEq, Int.reduceNe, Int.reduceLT, Int.reduceLE, Int.reduceGT, Int.reduceGE]
    refine loopI_of (xloop (by kernel_rfl) (fun k fr M' => ∃ i : Nat, i ≤ l.length ∧ k = l.length - i ∧ fr 0 = .l (.sl (l.map Pr.row)) ∧ fr 1 = .l (.clo f caps) ∧ fr 7 = .l (.int .i64 l.length) ∧ fr 8 = .l (.int .i64 i) ∧ M' = M ∧ pidx q l 0 = pidx q (l.drop i) i) l.length ?_ ?_)
    · exact ⟨0, Nat.zero_le _, rfl, by simp -implicitDefEqProofs (maxSteps := 1000000) (disch := omega) only [↓xsP, ↓vc_seq, xsQ, xsT, xsR, xsD, ↓reduceIte, reduceCtorEq, eq_self, ne_eq, imp_self, forall_const, Nat.reduceEqDiff, Nat.reduceAdd, Nat.reduceSub, Nat.reduceMul, Nat.reduceLT, Nat.reduceLeDiff, Nat.reduceBEq, Nat.reduceDiv, Nat.reduceMod, Int.reduceToNat, Int.reduceNeg, Int.reduceAdd, Int.reduceSub, Int.reduceMul, Int.reduceEq, Int.reduceNe, Int.reduceLT, Int.reduceLE, Int.reduceGT, Int.reduceGE], by simp -implicitDefEqProofs (maxSteps := 1000000) (disch := omega) only [↓xsP, ↓vc_seq, xsQ, xsT, xsR, xsD, ↓reduceIte, reduceCtorEq, eq_self, ne_eq, imp_self, forall_const, Nat.reduceEqDiff, Nat.reduceAdd, Nat.reduceSub, Nat.reduceMul, Nat.reduceLT, Nat.reduceLeDiff, Nat.reduceBEq, Nat.reduceDiv, Nat.reduceMod, Int.reduceToNat, Int.reduceNeg, Int.reduceAdd, Int.reduceSub, Int.reduceMul, Int.reduceEq, Int.reduceNe, Int.reduceLT, Int.reduceLE, Int.reduceGT, Int.reduceGE], by simp -implicitDefEqProofs (maxSteps := 1000000) (disch := omega) only [↓xsP, ↓vc_seq, xsQ, xsT, xsR, xsD, ↓reduceIte, reduceCtorEq, eq_self, ne_eq, imp_self, forall_const, Nat.reduceEqDiff, Nat.reduceAdd, Nat.reduceSub, Nat.reduceMul, Nat.reduceLT, Nat.reduceLeDiff, Nat.reduceBEq, Nat.reduceDiv, Nat.reduceMod, Int.reduceToNat, Int.reduceNeg, Int.reduceAdd, Int.reduceSub, Int.reduceMul, Int.reduceEq, Int.reduceNe, Int.reduceLT, Int.reduceLE, Int.reduceGT, Int.reduceGE], by simp -implicitDefEqProofs (maxSteps := 1000000) (disch := omega) only [↓xsP, ↓vc_seq, xsQ, xsT, xsR, xsD, ↓reduceIte, reduceCtorEq, eq_self, ne_eq, imp_self, forall_const, Nat.reduceEqDiff, Nat.reduceAdd, Nat.reduceSub, Nat.reduceMul, Nat.reduceLT, Nat.reduceLeDiff, Nat.reduceBEq, Nat.reduceDiv, Nat.reduceMod, Int.reduceToNat, Int.reduceNeg, Int.reduceAdd, Int.reduceSub, Int.reduceMul, Int.reduceEq, Int.reduceNe, Int.reduceLT, Int.reduceLE, Int.reduceGT, Int.reduceGE, Int.cast_ofNat_Int], rfl, inv0 0 rfl⟩
    · rintro k fr M' ⟨i, hi, rfl, h0, h1, h7, h8, rfl, hinv⟩
      simp -implicitDefEqProofs (maxSteps := 1000000) (disch := omega) only [↓xsP, ↓vc_seq, xsQ, xsT, xsR, xsD, ↓reduceIte, reduceCtorEq, eq_self, ne_eq, imp_self, forall_const, Nat.reduceEqDiff, Nat.reduceAdd, Nat.reduceSub, Nat.reduceMul, Nat.reduceLT, Nat.reduceLeDiff, Nat.reduceBEq, Nat.reduceDiv, Nat.reduceMod, Int.reduceToNat, Int.reduceNeg, Int.reduceAdd, Int.reduceSub, Int.reduceMul, Int.reduceEq, Int.reduceNe, Int.reduceLT, Int.reduceLE, Int.reduceGT, Int.reduceGE, h0, h1, h7, h8]
      refine condI_prop (fun hlt => ?_) (fun hlt => ?_)
      · simp -implicitDefEqProofs (maxSteps := 1000000) (disch := omega) only [↓xsP, ↓vc_seq, xsQ, xsT, xsR, xsD, ↓reduceIte, reduceCtorEq, eq_self, ne_eq, imp_self, forall_const, Nat.reduceEqDiff, Nat.reduceAdd, Nat.reduceSub, Nat.reduceMul, Nat.reduceLT, Nat.reduceLeDiff, Nat.reduceBEq, Nat.reduceDiv, Nat.reduceMod, Int.reduceToNat, Int.reduceNeg, Int.reduceAdd, Int.reduceSub, Int.reduceMul, Int.reduceEq, Int.reduceNe, Int.reduceLT, Int.reduceLE, Int.reduceGT, Int.reduceGE, h0, h1, h7, h8]
        rw [hstep i (by omega), pidx] at hinv
        refine call_of (hq (l.getD i default)) ?_
        cases hb : q (l.getD i default) with
        | true =>
          rw [hb, if_pos rfl] at hinv
          simp -implicitDefEqProofs (maxSteps := 1000000) (disch := omega) only [↓xsP, ↓vc_seq, xsQ, xsT, xsR, xsD, ↓reduceIte, reduceCtorEq, eq_self, ne_eq, imp_self, forall_const, Nat.reduceEqDiff, Nat.reduceAdd, Nat.reduceSub, Nat.reduceMul, Nat.reduceLT, Nat.reduceLeDiff, Nat.reduceBEq, Nat.reduceDiv, Nat.reduceMod, Int.reduceToNat, Int.reduceNeg, Int.reduceAdd, Int.reduceSub, Int.reduceMul, Int.reduceEq, Int.reduceNe, Int.reduceLT, Int.reduceLE, Int.reduceGT, Int.reduceGE, h0, h1, h7, h8]
          exact fin_ok (Mem.le_refl _) ⟨by rw [hinv], rfl⟩
        | false =>
          rw [hb] at hinv
          simp -implicitDefEqProofs (maxSteps := 1000000) (disch := omega) only [↓xsP, ↓vc_seq, xsQ, xsT, xsR, xsD, ↓reduceIte, reduceCtorEq, eq_self, ne_eq, imp_self, forall_const, Nat.reduceEqDiff, Nat.reduceAdd, Nat.reduceSub, Nat.reduceMul, Nat.reduceLT, Nat.reduceLeDiff, Nat.reduceBEq, Nat.reduceDiv, Nat.reduceMod, Int.reduceToNat, Int.reduceNeg, Int.reduceAdd, Int.reduceSub, Int.reduceMul, Int.reduceEq, Int.reduceNe, Int.reduceLT, Int.reduceLE, Int.reduceGT, Int.reduceGE, h0, h1, h7, h8]
          exact ⟨l.length - (i + 1), M', by omega, Mem.le_refl _, i + 1, by omega, rfl, by simp, rfl, by simpa using hinv⟩
      · simp -implicitDefEqProofs (maxSteps := 1000000) (disch := omega) only [↓xsP, ↓vc_seq, xsQ, xsT, xsR, xsD, ↓reduceIte, reduceCtorEq, eq_self, ne_eq, imp_self, forall_const, Nat.reduceEqDiff, Nat.reduceAdd, Nat.reduceSub, Nat.reduceMul, Nat.reduceLT, Nat.reduceLeDiff, Nat.reduceBEq, Nat.reduceDiv, Nat.reduceMod, Int.reduceToNat, Int.reduceNeg, Int.reduceAdd, Int.reduceSub, Int.reduceMul, Int.reduceEq, Int.reduceNe, Int.reduceLT, Int.reduceLE, Int.reduceGT, Int.reduceGE, h0, h1, h7, h8]
        have hil : i = l.length := by omega
        rw [hil, List.drop_length, pidx] at hinv
        exact fin_ok (Mem.le_refl _) ⟨by rw [hinv], rfl⟩
  · simp -implicitDefEqProofs (maxSteps := 1000000) (disch := omega) only [↓xsP, ↓vc_seq, xsQ, xsT, xsR, xsD, ↓reduceIte, reduceCtorEq, eq_self, ne_eq, imp_self, forall_const, Nat.reduceEqDiff, Nat.reduceAdd, Nat.reduceSub, Nat.reduceMul, Nat.reduceLT, Nat.reduceLeDiff, Nat.reduceBEq, Nat.reduceDiv, Nat.reduceMod, Int.reduceToNat, Int.reduceNeg, Int.reduceAdd, Int.reduceSub, Int.reduceMul, Int.reduceEq, Int.reduceNe, Int.reduceLT, Int.reduceLE, Int.reduceGT, Int.reduceGE]
    refine loopI_of (xloop (by kernel_rfl) (fun k fr M' => ∃ i : Nat, i ≤ l.length ∧ k = l.length - i ∧ fr 0 = .l (.ms id 0 l.length) ∧ fr 1 = .l (.clo f caps) ∧ fr 7 = .l (.int .i64 l.length) ∧ fr 8 = .l (.int .i64 i) ∧ M' = M ∧ pidx q l 0 = pidx q (l.drop i) i) l.length ?_ ?_)
    · exact ⟨0, Nat.zero_le _, rfl, by simp -implicitDefEqProofs (maxSteps := 1000000) (disch := omega) only [↓xsP, ↓vc_seq, xsQ, xsT, xsR, xsD, ↓reduceIte, reduceCtorEq, eq_self, ne_eq, imp_self, forall_const, Nat.reduceEqDiff, Nat.reduceAdd, Nat.reduceSub, Nat.reduceMul, Nat.reduceLT, Nat.reduceLeDiff, Nat.reduceBEq, Nat.reduceDiv, Nat.reduceMod, Int.reduceToNat, Int.reduceNeg, Int.reduceAdd, Int.reduceSub, Int.reduceMul, Int.reduceEq, Int.reduceNe, Int.reduceLT, Int.reduceLE, Int.reduceGT, Int.reduceGE], by simp -implicitDefEqProofs (maxSteps := 1000000) (disch := omega) only [↓xsP, ↓vc_seq, xsQ, xsT, xsR, xsD, ↓reduceIte, reduceCtorEq, eq_self, ne_eq, imp_self, forall_const, Nat.reduceEqDiff, Nat.reduceAdd, Nat.reduceSub, Nat.reduceMul, Nat.reduceLT, Nat.reduceLeDiff, Nat.reduceBEq, Nat.reduceDiv, Nat.reduceMod, Int.reduceToNat, Int.reduceNeg, Int.reduceAdd, Int.reduceSub, Int.reduceMul, Int.reduceEq, Int.reduceNe, Int.reduceLT, Int.reduceLE, Int.reduceGT, Int.reduceGE], by simp -implicitDefEqProofs (maxSteps := 1000000) (disch := omega) only [↓xsP, ↓vc_seq, xsQ, xsT, xsR, xsD, ↓reduceIte, reduceCtorEq, eq_self, ne_eq, imp_self, forall_const, Nat.reduceEqDiff, Nat.reduceAdd, Nat.reduceSub, Nat.reduceMul, Nat.reduceLT, Nat.reduceLeDiff, Nat.reduceBEq, Nat.reduceDiv, Nat.reduceMod, Int.reduceToNat, Int.reduceNeg, Int.reduceAdd, Int.reduceSub, Int.reduceMul, Int.reduceEq, Int.reduceNe, Int.reduceLT, Int.reduceLE, Int.reduceGT, Int.reduceGE], by simp -implicitDefEqProofs (maxSteps := 1000000) (disch := omega) only [↓xsP, ↓vc_seq, xsQ, xsT, xsR, xsD, ↓reduceIte, reduceCtorEq, eq_self, ne_eq, imp_self, forall_const, Nat.reduceEqDiff, Nat.reduceAdd, Nat.reduceSub, Nat.reduceMul, Nat.reduceLT, Nat.reduceLeDiff, Nat.reduceBEq, Nat.reduceDiv, Nat.reduceMod, Int.reduceToNat, Int.reduceNeg, Int.reduceAdd, Int.reduceSub, Int.reduceMul, Int.reduceEq, Int.reduceNe, Int.reduceLT, Int.reduceLE, Int.reduceGT, Int.reduceGE, Int.cast_ofNat_Int], rfl, inv0 0 rfl⟩
    · rintro k fr M' ⟨i, hi, rfl, h0, h1, h7, h8, rfl, hinv⟩
      simp -implicitDefEqProofs (maxSteps := 1000000) (disch := omega) only [↓xsP, ↓vc_seq, xsQ, xsT, xsR, xsD, ↓reduceIte, reduceCtorEq, eq_self, ne_eq, imp_self, forall_const, Nat.reduceEqDiff, Nat.reduceAdd, Nat.reduceSub, Nat.reduceMul, Nat.reduceLT, Nat.reduceLeDiff, Nat.reduceBEq, Nat.reduceDiv, Nat.reduceMod, Int.reduceToNat, Int.reduceNeg, Int.reduceAdd, Int.reduceSub, Int.reduceMul, Int.reduceEq, Int.reduceNe, Int.reduceLT, Int.reduceLE, Int.reduceGT, Int.reduceGE, h0, h1, h7, h8]
      refine condI_prop (fun hlt => ?_) (fun hlt => ?_)
      · simp -implicitDefEqProofs (maxSteps := 1000000) (disch := omega) only [↓xsP, ↓vc_seq, xsQ, xsT, xsR, xsD, ↓reduceIte, reduceCtorEq, eq_self, ne_eq, imp_self, forall_const, Nat.reduceEqDiff, Nat.reduceAdd, Nat.reduceSub, Nat.reduceMul, Nat.reduceLT, Nat.reduceLeDiff, Nat.reduceBEq, Nat.reduceDiv, Nat.reduceMod, Int.reduceToNat, Int.reduceNeg, Int.reduceAdd, Int.reduceSub, Int.reduceMul, Int.reduceEq, Int.reduceNe, Int.reduceLT, Int.reduceLE, Int.reduceGT, Int.reduceGE, h0, h1, h7, h8, hM]
        rw [hstep i (by omega), pidx] at hinv
        refine call_of (hq (l.getD i default)) ?_
        cases hb : q (l.getD i default) with
        | true =>
          rw [hb, if_pos rfl] at hinv
          simp -implicitDefEqProofs (maxSteps := 1000000) (disch := omega) only [↓xsP, ↓vc_seq, xsQ, xsT, xsR, xsD, ↓reduceIte, reduceCtorEq, eq_self, ne_eq, imp_self, forall_const, Nat.reduceEqDiff, Nat.reduceAdd, Nat.reduceSub, Nat.reduceMul, Nat.reduceLT, Nat.reduceLeDiff, Nat.reduceBEq, Nat.reduceDiv, Nat.reduceMod, Int.reduceToNat, Int.reduceNeg, Int.reduceAdd, Int.reduceSub, Int.reduceMul, Int.reduceEq, Int.reduceNe, Int.reduceLT, Int.reduceLE, Int.reduceGT, Int.reduceGE, h0, h1, h7, h8]
          exact fin_ok (Mem.le_refl _) ⟨by rw [hinv], rfl⟩
        | false =>
          rw [hb] at hinv
          simp -implicitDefEqProofs (maxSteps := 1000000) (disch := omega) only [↓xsP, ↓vc_seq, xsQ, xsT, xsR, xsD, ↓reduceIte, reduceCtorEq, eq_self, ne_eq, imp_self, forall_const, Nat.reduceEqDiff, Nat.reduceAdd, Nat.reduceSub, Nat.reduceMul, Nat.reduceLT, Nat.reduceLeDiff, Nat.reduceBEq, Nat.reduceDiv, Nat.reduceMod, Int.reduceToNat, Int.reduceNeg, Int.reduceAdd, Int.reduceSub, Int.reduceMul, Int.reduceEq, Int.reduceNe, Int.reduceLT, Int.reduceLE, Int.reduceGT, Int.reduceGE, h0, h1, h7, h8]
          exact ⟨l.length - (i + 1), M', by omega, Mem.le_refl _, i + 1, by omega, rfl, by simp, rfl, by simpa using hinv⟩
      · simp -implicitDefEqProofs (maxSteps := 1000000) (disch := omega) only [↓xsP, ↓vc_seq, xsQ, xsT, xsR, xsD, ↓reduceIte, reduceCtorEq, eq_self, ne_eq, imp_self, forall_const, Nat.reduceEqDiff, Nat.reduceAdd, Nat.reduceSub, Nat.reduceMul, Nat.reduceLT, Nat.reduceLeDiff, Nat.reduceBEq, Nat.reduceDiv, Nat.reduceMod, Int.reduceToNat, Int.reduceNeg, Int.reduceAdd, Int.reduceSub, Int.reduceMul, Int.reduceEq, Int.reduceNe, Int.reduceLT, Int.reduceLE, Int.reduceGT, Int.reduceGE, h0, h1, h7, h8]
        have hil : i = l.length := by omega
        rw [hil, List.drop_length, pidx] at hinv
        exact fin_ok (Mem.le_refl _) ⟨by rw [hinv], rfl⟩

theorem find_spec (l : List Pr) (hl : l.length ≤ 140737488355328) (k : Int) (M : Mem) :
    XCalls Go.Proofs.Try.prog 67 [.l (.sl (l.map Pr.row)), .l (.int .i64 k)] M fun r M' => r = .l (.int .i64 (pidx (fun p => decide (p.key = k)) l 0)) ∧ M' = M := by
  refine xcalls_intro (rs := [.tmp 4]) Go.Proofs.Try.func67 rfl (by kernel_rfl) rfl rfl (by kernel_rfl) (by simp) ?_
  simp -implicitDefEqProofs (maxSteps := 1000000) (disch := omega) only [↓xsP, ↓vc_seq, xsQ, xsT, xsR, xsD, ↓reduceIte, reduceCtorEq, eq_self, ne_eq, imp_self, forall_const, Nat.reduceEqDiff, Nat.reduceAdd, Nat.reduceSub, Nat.reduceMul, Nat.reduceLT, Nat.reduceLeDiff, Nat.reduceBEq, Nat.reduceDiv, Nat.reduceMod, Int.reduceToNat, Int.reduceNeg, Int.reduceAdd, Int.reduceSub, Int.reduceMul, Int.reduceEq, Int.reduceNe, Int.reduceLT, Int.reduceLE, Int.reduceGT, Int.reduceGE]
  refine newI_intro fun id hid => ?_
  simp -implicitDefEqProofs (maxSteps := 1000000) (disch := omega) only [↓xsP, ↓vc_seq, xsQ, xsT, xsR, xsD, ↓reduceIte, reduceCtorEq, eq_self, ne_eq, imp_self, forall_const, Nat.reduceEqDiff, Nat.reduceAdd, Nat.reduceSub, Nat.reduceMul, Nat.reduceLT, Nat.reduceLeDiff, Nat.reduceBEq, Nat.reduceDiv, Nat.reduceMod, Int.reduceToNat, Int.reduceNeg, Int.reduceAdd, Int.reduceSub, Int.reduceMul, Int.reduceEq, Int.reduceNe, Int.reduceLT, Int.reduceLE, Int.reduceGT, Int.reduceGE]
  refine call_of (index_spec l hl _ _ (.inl rfl) _ _ (fun p => decide (p.key = k)) (fun p => findClo_spec p id k _ (Mem.set_eq _ _ _))) ?_
  simp -implicitDefEqProofs (maxSteps := 1000000) (disch := omega) only [↓xsP, ↓vc_seq, xsQ, xsT, xsR, xsD, ↓reduceIte, reduceCtorEq, eq_self, ne_eq, imp_self, forall_const, Nat.reduceEqDiff, Nat.reduceAdd, Nat.reduceSub, Nat.reduceMul, Nat.reduceLT, Nat.reduceLeDiff, Nat.reduceBEq, Nat.reduceDiv, Nat.reduceMod, Int.reduceToNat, Int.reduceNeg, Int.reduceAdd, Int.reduceSub, Int.reduceMul, Int.reduceEq, Int.reduceNe, Int.reduceLT, Int.reduceLE, Int.reduceGT, Int.reduceGE]
  exact fin_ok (le_new (Mem.le_refl _) hid) ⟨rfl, rfl⟩

theorem eql_sl_nil (P : Program) (t : TypeId) (x : Operand) (rows : List (List Lf)) (K : AV → Prop) : @binI P .eql t x (.const (.slice none 0 0)) (.l (.sl rows)) (.l .nils) ⟨K⟩ = @optI _ (tiOf P t) ⟨fun i => match i.d with | .slice _ => @nilSI false (.l (.sl rows)) ⟨K⟩ | _ => False⟩ :=
  eql_nils P t x _ _ (fun k n h => by cases h) K
theorem rows2 (l : List Pr) : ∀ r ∈ l.map Pr.row, r.length = 2 := fun r hr => by
  obtain ⟨p, _, rfl⟩ := List.mem_map.1 hr
  rfl
/-- append of pairs to a slice of a live block. -/
theorem app_prs {l : List Pr} {id len : Nat} {rows : List (List Lf)} {keep : Nat} {M : Mem} (hM : M id = some (.cells 38 rows keep)) (hlen : len ≤ rows.length) (hk : keep ≤ len) (hb : len + l.length ≤ 2000002) {K : AV → Mem → Prop}
    (h : ∀ id', (∀ j, id' ≤ j → M j = none) → K (.l (.ms id' 0 (len + l.length))) ((M.del id).set id' (.cells 38 (rows.take len ++ l.map Pr.row) keep))) :
    @appI Go.Proofs.Try.prog M 24 24 (.l (.ms id 0 len)) (.l (.sl (l.map Pr.row))) ⟨K⟩ := by
  refine app_ms _ _ _ _ 38 _ _ ti_24 rfl ti_38 (by kernel_rfl) (by decide) id len _ (rows := rows) (keep := keep) (l.map Pr.row) hM ?_ hlen hk ?_ ?_ ?_
  · simp -implicitDefEqProofs (maxSteps := 1000000) (disch := omega) only [↓xsP, ↓vc_seq, xsQ, xsT, xsR, xsD, ↓reduceIte, reduceCtorEq, eq_self, ne_eq, imp_self, forall_const, Nat.reduceEqDiff, Nat.reduceAdd, Nat.reduceSub, Nat.reduceMul, Nat.reduceLT, Nat.reduceLeDiff, Nat.reduceBEq, Nat.reduceDiv, Nat.reduceMod, Int.reduceToNat, Int.reduceNeg, Int.reduceAdd, Int.reduceSub, Int.reduceMul, Int.reduceEq, Int.reduceNe, Int.reduceLT, Int.reduceLE, Int.reduceGT, Int.reduceGE]
    rw [if_pos (rows2 l)]
  · exact Nat.le_trans (Nat.mul_le_mul_right _ (show len + (l.map Pr.row).length ≤ 2000002 by simpa using hb)) (by decide)
  · simp
    omega
  · simpa using h
theorem le_clone {M : Mem} {id id' : Nat} {X Y : Blk} (h : M id = none) : (M.set id' X).le (((M.set id Y).del id).set id' X) := fun i b hb => by
  simp only [Mem.set_app, Mem.del_app] at hb ⊢
  by_cases e : id' = i
  · rw [if_pos e] at hb ⊢; exact hb
  · rw [if_neg e] at hb ⊢
    have hne : ¬ id = i := fun e' => by subst e'; rw [h] at hb; cases hb
    rw [if_neg hne, if_neg hne]
    exact hb
/-- A copy: nil, or a block of its own. -/
theorem clone_live (l : List Pr) (hl : l.length ≤ 1000001) (M : Mem) :
    XCalls Go.Proofs.Try.prog 55 [.l (.sl (l.map Pr.row))] M fun r M' => (r = .l .nils ∧ l = [] ∧ M' = M) ∨ ∃ id, (∀ j, id ≤ j → M j = none) ∧ r = .l (.ms id 0 l.length) ∧ M' = M.set id (.cells 38 (l.map Pr.row) 0) := by
  refine xcalls_intro (rs := [.tmp 2]) Go.Proofs.Try.func55 rfl (by kernel_rfl) rfl rfl (by kernel_rfl) (by simp) ?_
  simp -implicitDefEqProofs (maxSteps := 1000000) (disch := omega) only [↓xsP, ↓vc_seq, xsQ, xsT, xsR, xsD, ↓reduceIte, reduceCtorEq, eq_self, ne_eq, imp_self, forall_const, Nat.reduceEqDiff, Nat.reduceAdd, Nat.reduceSub, Nat.reduceMul, Nat.reduceLT, Nat.reduceLeDiff, Nat.reduceBEq, Nat.reduceDiv, Nat.reduceMod, Int.reduceToNat, Int.reduceNeg, Int.reduceAdd, Int.reduceSub, Int.reduceMul, Int.reduceEq, Int.reduceNe, Int.reduceLT, Int.reduceLE, Int.reduceGT, Int.reduceGE]
  rw [eql_sl_nil]
  simp -implicitDefEqProofs (maxSteps := 1000000) (disch := omega) only [↓xsP, ↓vc_seq, xsQ, xsT, xsR, xsD, ↓reduceIte, reduceCtorEq, eq_self, ne_eq, imp_self, forall_const, Nat.reduceEqDiff, Nat.reduceAdd, Nat.reduceSub, Nat.reduceMul, Nat.reduceLT, Nat.reduceLeDiff, Nat.reduceBEq, Nat.reduceDiv, Nat.reduceMod, Int.reduceToNat, Int.reduceNeg, Int.reduceAdd, Int.reduceSub, Int.reduceMul, Int.reduceEq, Int.reduceNe, Int.reduceLT, Int.reduceLE, Int.reduceGT, Int.reduceGE]
  refine nilSI_sl _ (fun he b => ?_) (fun hne => ?_)
  · have hl0 : l = [] := by simpa using he
    subst hl0
    cases b with
    | true =>
      simp -implicitDefEqProofs (maxSteps := 1000000) (disch := omega) only [↓xsP, ↓vc_seq, xsQ, xsT, xsR, xsD, ↓reduceIte, reduceCtorEq, eq_self, ne_eq, imp_self, forall_const, Nat.reduceEqDiff, Nat.reduceAdd, Nat.reduceSub, Nat.reduceMul, Nat.reduceLT, Nat.reduceLeDiff, Nat.reduceBEq, Nat.reduceDiv, Nat.reduceMod, Int.reduceToNat, Int.reduceNeg, Int.reduceAdd, Int.reduceSub, Int.reduceMul, Int.reduceEq, Int.reduceNe, Int.reduceLT, Int.reduceLE, Int.reduceGT, Int.reduceGE]
      exact fin_ok (Mem.le_refl _) (.inl ⟨rfl, rfl, rfl⟩)
    | false =>
      simp -implicitDefEqProofs (maxSteps := 1000000) (disch := omega) only [↓xsP, ↓vc_seq, xsQ, xsT, xsR, xsD, ↓reduceIte, reduceCtorEq, eq_self, ne_eq, imp_self, forall_const, Nat.reduceEqDiff, Nat.reduceAdd, Nat.reduceSub, Nat.reduceMul, Nat.reduceLT, Nat.reduceLeDiff, Nat.reduceBEq, Nat.reduceDiv, Nat.reduceMod, Int.reduceToNat, Int.reduceNeg, Int.reduceAdd, Int.reduceSub, Int.reduceMul, Int.reduceEq, Int.reduceNe, Int.reduceLT, Int.reduceLE, Int.reduceGT, Int.reduceGE]
      refine newI_intro fun id hid => ?_
      simp -implicitDefEqProofs (maxSteps := 1000000) (disch := omega) only [↓xsP, ↓vc_seq, xsQ, xsT, xsR, xsD, ↓reduceIte, reduceCtorEq, eq_self, ne_eq, imp_self, forall_const, Nat.reduceEqDiff, Nat.reduceAdd, Nat.reduceSub, Nat.reduceMul, Nat.reduceLT, Nat.reduceLeDiff, Nat.reduceBEq, Nat.reduceDiv, Nat.reduceMod, Int.reduceToNat, Int.reduceNeg, Int.reduceAdd, Int.reduceSub, Int.reduceMul, Int.reduceEq, Int.reduceNe, Int.reduceLT, Int.reduceLE, Int.reduceGT, Int.reduceGE]
      refine app_prs (l := []) (rows := []) (keep := 0) (Mem.set_eq _ _ _) (Nat.zero_le _) (Nat.le_refl _) (by simp) fun id' hid' => ?_
      obtain ⟨hlt, hid'⟩ := bnd_new hid'
      simp -implicitDefEqProofs (maxSteps := 1000000) (disch := omega) only [↓xsP, ↓vc_seq, xsQ, xsT, xsR, xsD, ↓reduceIte, reduceCtorEq, eq_self, ne_eq, imp_self, forall_const, Nat.reduceEqDiff, Nat.reduceAdd, Nat.reduceSub, Nat.reduceMul, Nat.reduceLT, Nat.reduceLeDiff, Nat.reduceBEq, Nat.reduceDiv, Nat.reduceMod, Int.reduceToNat, Int.reduceNeg, Int.reduceAdd, Int.reduceSub, Int.reduceMul, Int.reduceEq, Int.reduceNe, Int.reduceLT, Int.reduceLE, Int.reduceGT, Int.reduceGE]
      exact finI_of (XFin.le (le_clone (hid _ (Nat.le_refl _))) (.inr ⟨id', hid', rfl, rfl⟩))
  · simp -implicitDefEqProofs (maxSteps := 1000000) (disch := omega) only [↓xsP, ↓vc_seq, xsQ, xsT, xsR, xsD, ↓reduceIte, reduceCtorEq, eq_self, ne_eq, imp_self, forall_const, Nat.reduceEqDiff, Nat.reduceAdd, Nat.reduceSub, Nat.reduceMul, Nat.reduceLT, Nat.reduceLeDiff, Nat.reduceBEq, Nat.reduceDiv, Nat.reduceMod, Int.reduceToNat, Int.reduceNeg, Int.reduceAdd, Int.reduceSub, Int.reduceMul, Int.reduceEq, Int.reduceNe, Int.reduceLT, Int.reduceLE, Int.reduceGT, Int.reduceGE]
    refine newI_intro fun id hid => ?_
    simp -implicitDefEqProofs (maxSteps := 1000000) (disch := omega) only [↓xsP, ↓vc_seq, xsQ, xsT, xsR, xsD, ↓reduceIte, reduceCtorEq, eq_self, ne_eq, imp_self, forall_const, Nat.reduceEqDiff, Nat.reduceAdd, Nat.reduceSub, Nat.reduceMul, Nat.reduceLT, Nat.reduceLeDiff, Nat.reduceBEq, Nat.reduceDiv, Nat.reduceMod, Int.reduceToNat, Int.reduceNeg, Int.reduceAdd, Int.reduceSub, Int.reduceMul, Int.reduceEq, Int.reduceNe, Int.reduceLT, Int.reduceLE, Int.reduceGT, Int.reduceGE]
    refine app_prs (l := l) (rows := []) (keep := 0) (Mem.set_eq _ _ _) (Nat.zero_le _) (Nat.le_refl _) (by omega) fun id' hid' => ?_
    obtain ⟨hlt, hid'⟩ := bnd_new hid'
    simp -implicitDefEqProofs (maxSteps := 1000000) (disch := omega) only [↓xsP, ↓vc_seq, xsQ, xsT, xsR, xsD, ↓reduceIte, reduceCtorEq, eq_self, ne_eq, imp_self, forall_const, Nat.reduceEqDiff, Nat.reduceAdd, Nat.reduceSub, Nat.reduceMul, Nat.reduceLT, Nat.reduceLeDiff, Nat.reduceBEq, Nat.reduceDiv, Nat.reduceMod, Int.reduceToNat, Int.reduceNeg, Int.reduceAdd, Int.reduceSub, Int.reduceMul, Int.reduceEq, Int.reduceNe, Int.reduceLT, Int.reduceLE, Int.reduceGT, Int.reduceGE]
    exact finI_of (XFin.le (le_clone (hid _ (Nat.le_refl _))) (.inr ⟨id', hid', rfl, rfl⟩))
/-- A copy, kept. -/
theorem clone_spec (l : List Pr) (hl : l.length ≤ 1000001) (M : Mem) :
    XCalls Go.Proofs.Try.prog 55 [.l (.sl (l.map Pr.row))] M fun r M' => r = .l (.sl (l.map Pr.row)) ∧ M' = M := by
  refine (clone_live l hl M).fin ?_
  rintro v M' (⟨rfl, rfl, rfl⟩ | ⟨id, hid, rfl, rfl⟩)
  · exact XFin.wk (XFin.here ⟨rfl, rfl⟩)
  · refine XFin.frz id (Mem.set_eq _ _ _) (XFin.le ?_ ⟨?_, rfl⟩)
    · exact le_new (le_new (Mem.le_refl _) hid) hid
    · simp [frzA, frz1, frzL, List.take_of_length_le]

theorem pidx_cases (q : Pr → Bool) : ∀ (l : List Pr) (i : Nat), (pidx q l i = -1 ∧ ∀ p ∈ l, q p = false) ∨ ∃ k, k < l.length ∧ pidx q l i = (i : Int) + k ∧ q (l.getD k default) = true ∧ ∀ p ∈ l.take k, q p = false
  | [], i => .inl ⟨rfl, fun p hp => by cases hp⟩
  | p :: r, i => by
    simp only [pidx]
    cases hq : q p with
    | true => exact .inr ⟨0, by simp, by simp, by simpa using hq, fun p hp => by simp at hp⟩
    | false =>
      rcases pidx_cases q r (i + 1) with ⟨h1, h2⟩ | ⟨k, hk, h1, h2, h3⟩
      · refine .inl ⟨by simpa using h1, fun x hx => ?_⟩
        rcases List.mem_cons.1 hx with rfl | hx
        · exact hq
        · exact h2 x hx
      · refine .inr ⟨k + 1, by simpa using hk, ?_, by simpa using h2, fun x hx => ?_⟩
        · simp only [Bool.false_eq_true, if_false]
          rw [h1]
          omega
        · rw [List.take_succ_cons] at hx
          rcases List.mem_cons.1 hx with rfl | hx
          · exact hq
          · exact h3 x hx

/-- The pairs that stay. -/
def stays (q : Pr → Bool) (l : List Pr) : List Pr := l.filter fun p => !q p
theorem stays_all {q : Pr → Bool} {l : List Pr} (h : ∀ p ∈ l, q p = false) : stays q l = l := List.filter_eq_self.2 fun p hp => by simp [h p hp]
theorem stays_snoc (q : Pr → Bool) (l : List Pr) {j : Nat} (hj : j < l.length) : stays q (l.take (j + 1)) = stays q (l.take j) ++ (if q (l.getD j default) then [] else [l.getD j default]) := by
  have : l.take (j + 1) = l.take j ++ [l.getD j default] := by
    rw [List.take_add_one, List.getD_eq_getElem?_getD, List.getElem?_eq_getElem hj]
    rfl
  rw [this, stays, List.filter_append, stays]
  congr 1
  cases hq : q (l.getD j default) <;> simp [hq, -List.getD_eq_getElem?_getD]

theorem delete_spec (l : List Pr) (hl : l.length ≤ 1000001) (id : Nat) (M : Mem) (hM : M id = some (.cells 38 (l.map Pr.row) 0)) (f : FuncId) (caps : List Lf) (q : Pr → Bool)
    (hq : ∀ p M', (∀ j b, j ≠ id → M j = some b → M' j = some b) → XCalls Go.Proofs.Try.prog f ([.agg p.row] ++ caps.map .l) M' fun r M'' => r = .l (.bool (q p)) ∧ M'' = M') :
    XCalls Go.Proofs.Try.prog 65 [.l (.ms id 0 l.length), .l (.clo f caps)] M fun r M' => ∃ R : List Pr, r = .l (.ms id 0 (stays q l).length) ∧ M' = M.set id (.cells 38 (R.map Pr.row) 0) ∧ R.take (stays q l).length = stays q l ∧ (stays q l).length ≤ R.length := by
  refine xcalls_intro (rs := [.tmp 4]) Go.Proofs.Try.func65 rfl (by kernel_rfl) rfl rfl (by kernel_rfl) (by simp) ?_
  simp -implicitDefEqProofs (maxSteps := 1000000) (disch := omega) only [↓xsP, ↓vc_seq, xsQ, xsT, xsR, xsD, ↓reduceIte, reduceCtorEq, eq_self, ne_eq, imp_self, forall_const, Nat.reduceEqDiff, Nat.reduceAdd, Nat.reduceSub, Nat.reduceMul, Nat.reduceLT, Nat.reduceLeDiff, Nat.reduceBEq, Nat.reduceDiv, Nat.reduceMod, Int.reduceToNat, Int.reduceNeg, Int.reduceAdd, Int.reduceSub, Int.reduceMul, Int.reduceEq, Int.reduceNe, Int.reduceLT, Int.reduceLE, Int.reduceGT, Int.reduceGE]
  refine call_of (index_spec l (by omega) _ _ (.inr ⟨id, 0, rfl, hM⟩) _ _ q fun p => hq p M fun j b _ h => h) ?_
  have hset : M.set id (.cells 38 (l.map Pr.row) 0) = M := by
    funext i
    rw [Mem.set_app]
    split
    · rename_i e; subst e; exact hM.symm
    · rfl
  rcases pidx_cases q l 0 with ⟨h1, h2⟩ | ⟨k, hk, h1, h2, h3⟩
  · rw [h1]
    simp -implicitDefEqProofs (maxSteps := 1000000) (disch := omega) only [↓xsP, ↓vc_seq, xsQ, xsT, xsR, xsD, ↓reduceIte, reduceCtorEq, eq_self, ne_eq, imp_self, forall_const, Nat.reduceEqDiff, Nat.reduceAdd, Nat.reduceSub, Nat.reduceMul, Nat.reduceLT, Nat.reduceLeDiff, Nat.reduceBEq, Nat.reduceDiv, Nat.reduceMod, Int.reduceToNat, Int.reduceNeg, Int.reduceAdd, Int.reduceSub, Int.reduceMul, Int.reduceEq, Int.reduceNe, Int.reduceLT, Int.reduceLE, Int.reduceGT, Int.reduceGE]
    refine finI_of (XFin.here ⟨l, by rw [stays_all h2], hset.symm, by rw [stays_all h2, List.take_length], by rw [stays_all h2]; exact Nat.le_refl _⟩)
  · rw [h1]
    have hk1 : ((0 : Nat) : Int) + (k : Int) = (k : Int) := by omega
    rw [hk1]
    have hkn : ((k : Int) = -1) = False := eq_false (by omega)
    simp -implicitDefEqProofs (maxSteps := 1000000) (disch := omega) only [↓xsP, ↓vc_seq, xsQ, xsT, xsR, xsD, ↓reduceIte, reduceCtorEq, eq_self, ne_eq, imp_self, forall_const, Nat.reduceEqDiff, Nat.reduceAdd, Nat.reduceSub, Nat.reduceMul, Nat.reduceLT, Nat.reduceLeDiff, Nat.reduceBEq, Nat.reduceDiv, Nat.reduceMod, Int.reduceToNat, Int.reduceNeg, Int.reduceAdd, Int.reduceSub, Int.reduceMul, Int.reduceEq, Int.reduceNe, Int.reduceLT, Int.reduceLE, Int.reduceGT, Int.reduceGE, hkn]
    have hst0 : stays q (l.take (k + 1)) = l.take k := by
      rw [stays_snoc q l hk, h2, if_pos rfl, List.append_nil, stays_all h3]
    refine loopI_of (xloop (by kernel_rfl) (fun r fr M' => ∃ (j i : Nat) (R : List Pr), i < j ∧ j ≤ l.length ∧ r = l.length - j ∧ fr 0 = .l (.ms id 0 l.length) ∧ fr 1 = .l (.clo f caps) ∧ fr 5 = .l (.int .i64 i) ∧ fr 6 = .l (.int .i64 j) ∧
      R.length = l.length ∧ R.take i = stays q (l.take j) ∧ i = (stays q (l.take j)).length ∧ R.drop j = l.drop j ∧ M' = M.set id (.cells 38 (R.map Pr.row) 0)) (l.length - (k + 1)) ?_ ?_)
    · exact ⟨k + 1, k, l, by omega, by omega, rfl, by simp -implicitDefEqProofs (maxSteps := 1000000) (disch := omega) only [↓xsP, ↓vc_seq, xsQ, xsT, xsR, xsD, ↓reduceIte, reduceCtorEq, eq_self, ne_eq, imp_self, forall_const, Nat.reduceEqDiff, Nat.reduceAdd, Nat.reduceSub, Nat.reduceMul, Nat.reduceLT, Nat.reduceLeDiff, Nat.reduceBEq, Nat.reduceDiv, Nat.reduceMod, Int.reduceToNat, Int.reduceNeg, Int.reduceAdd, Int.reduceSub, Int.reduceMul, Int.reduceEq, Int.reduceNe, Int.reduceLT, Int.reduceLE, Int.reduceGT, Int.reduceGE], by simp -implicitDefEqProofs (maxSteps := 1000000) (disch := omega) only [↓xsP, ↓vc_seq, xsQ, xsT, xsR, xsD, ↓reduceIte, reduceCtorEq, eq_self, ne_eq, imp_self, forall_const, Nat.reduceEqDiff, Nat.reduceAdd, Nat.reduceSub, Nat.reduceMul, Nat.reduceLT, Nat.reduceLeDiff, Nat.reduceBEq, Nat.reduceDiv, Nat.reduceMod, Int.reduceToNat, Int.reduceNeg, Int.reduceAdd, Int.reduceSub, Int.reduceMul, Int.reduceEq, Int.reduceNe, Int.reduceLT, Int.reduceLE, Int.reduceGT, Int.reduceGE], by simp -implicitDefEqProofs (maxSteps := 1000000) (disch := omega) only [↓xsP, ↓vc_seq, xsQ, xsT, xsR, xsD, ↓reduceIte, reduceCtorEq, eq_self, ne_eq, imp_self, forall_const, Nat.reduceEqDiff, Nat.reduceAdd, Nat.reduceSub, Nat.reduceMul, Nat.reduceLT, Nat.reduceLeDiff, Nat.reduceBEq, Nat.reduceDiv, Nat.reduceMod, Int.reduceToNat, Int.reduceNeg, Int.reduceAdd, Int.reduceSub, Int.reduceMul, Int.reduceEq, Int.reduceNe, Int.reduceLT, Int.reduceLE, Int.reduceGT, Int.reduceGE], by simp -implicitDefEqProofs (maxSteps := 1000000) (disch := omega) only [↓xsP, ↓vc_seq, xsQ, xsT, xsR, xsD, ↓reduceIte, reduceCtorEq, eq_self, ne_eq, imp_self, forall_const, Nat.reduceEqDiff, Nat.reduceAdd, Nat.reduceSub, Nat.reduceMul, Nat.reduceLT, Nat.reduceLeDiff, Nat.reduceBEq, Nat.reduceDiv, Nat.reduceMod, Int.reduceToNat, Int.reduceNeg, Int.reduceAdd, Int.reduceSub, Int.reduceMul, Int.reduceEq, Int.reduceNe, Int.reduceLT, Int.reduceLE, Int.reduceGT, Int.reduceGE, Int.natCast_add, Int.cast_ofNat_Int], rfl, hst0.symm, by rw [hst0]; simp; omega, rfl, hset.symm⟩
    · rintro r fr M' ⟨j, i, R, hij, hj, rfl, h0, h1, h5, h6, hR, hRt, hil, hRd, rfl⟩
      simp -implicitDefEqProofs (maxSteps := 1000000) (disch := omega) only [↓xsP, ↓vc_seq, xsQ, xsT, xsR, xsD, ↓reduceIte, reduceCtorEq, eq_self, ne_eq, imp_self, forall_const, Nat.reduceEqDiff, Nat.reduceAdd, Nat.reduceSub, Nat.reduceMul, Nat.reduceLT, Nat.reduceLeDiff, Nat.reduceBEq, Nat.reduceDiv, Nat.reduceMod, Int.reduceToNat, Int.reduceNeg, Int.reduceAdd, Int.reduceSub, Int.reduceMul, Int.reduceEq, Int.reduceNe, Int.reduceLT, Int.reduceLE, Int.reduceGT, Int.reduceGE, h0, h1, h5, h6]
      refine condI_prop (fun hlt => ?_) (fun hlt => ?_)
      · have hj' : j < l.length := by omega
        have hRj : R.getD j default = l.getD j default := by
          have := congrArg (fun x => x[0]?) hRd
          simp only [List.getElem?_drop, Nat.add_zero] at this
          rw [List.getD_eq_getElem?_getD, List.getD_eq_getElem?_getD, this]
        have hM' := Mem.set_eq M id (.cells 38 (R.map Pr.row) 0)
        have hold : ∀ j b, j ≠ id → M j = some b → (M.set id (.cells 38 (R.map Pr.row) 0)) j = some b := fun j b hj hb => by rw [Mem.set_ne _ _ _ _ (Ne.symm hj)]; exact hb
        generalize M.set id (.cells 38 (R.map Pr.row) 0) = N at hM' hold ⊢
        simp -implicitDefEqProofs (maxSteps := 1000000) (disch := omega) only [↓xsP, ↓vc_seq, xsQ, xsT, xsR, xsD, ↓reduceIte, reduceCtorEq, eq_self, ne_eq, imp_self, forall_const, Nat.reduceEqDiff, Nat.reduceAdd, Nat.reduceSub, Nat.reduceMul, Nat.reduceLT, Nat.reduceLeDiff, Nat.reduceBEq, Nat.reduceDiv, Nat.reduceMod, Int.reduceToNat, Int.reduceNeg, Int.reduceAdd, Int.reduceSub, Int.reduceMul, Int.reduceEq, Int.reduceNe, Int.reduceLT, Int.reduceLE, Int.reduceGT, Int.reduceGE, h0, h1, h5, h6, hM']
        refine newI_intro fun id7 hid7 => ?_
        have h7 : id < id7 := lt_of_bnd hid7 hM'
        simp -implicitDefEqProofs (maxSteps := 1000000) (disch := omega) only [↓xsP, ↓vc_seq, xsQ, xsT, xsR, xsD, ↓reduceIte, reduceCtorEq, eq_self, ne_eq, imp_self, forall_const, Nat.reduceEqDiff, Nat.reduceAdd, Nat.reduceSub, Nat.reduceMul, Nat.reduceLT, Nat.reduceLeDiff, Nat.reduceBEq, Nat.reduceDiv, Nat.reduceMod, Int.reduceToNat, Int.reduceNeg, Int.reduceAdd, Int.reduceSub, Int.reduceMul, Int.reduceEq, Int.reduceNe, Int.reduceLT, Int.reduceLE, Int.reduceGT, Int.reduceGE, h0, h1, h5, h6, hM', hRj]
        refine call_of (hq (l.getD j default) _ fun j' b hj' hb => ?_) ?_
        · have := hold j' b hj' hb
          rw [Mem.set_ne _ _ _ _ (by have := lt_of_bnd hid7 this; omega)]
          exact this
        · have hRd1 : R.drop (j + 1) = l.drop (j + 1) := by
            have := congrArg (List.drop 1) hRd
            simpa [List.drop_drop] using this
          have hsn := stays_snoc q l hj'
          have hiR : i < R.length := by omega
          cases hb : q (l.getD j default) with
          | true =>
            rw [hb, if_pos rfl, List.append_nil] at hsn
            simp -implicitDefEqProofs (maxSteps := 1000000) (disch := omega) only [↓xsP, ↓vc_seq, xsQ, xsT, xsR, xsD, ↓reduceIte, reduceCtorEq, eq_self, ne_eq, imp_self, forall_const, Nat.reduceEqDiff, Nat.reduceAdd, Nat.reduceSub, Nat.reduceMul, Nat.reduceLT, Nat.reduceLeDiff, Nat.reduceBEq, Nat.reduceDiv, Nat.reduceMod, Int.reduceToNat, Int.reduceNeg, Int.reduceAdd, Int.reduceSub, Int.reduceMul, Int.reduceEq, Int.reduceNe, Int.reduceLT, Int.reduceLE, Int.reduceGT, Int.reduceGE, h0, h1, h5, h6, hM']
            refine ⟨l.length - (j + 1), M.set id (.cells 38 (R.map Pr.row) 0), by omega, fun i' b hb' => ?_, j + 1, i, R, by omega, by omega, rfl, rfl, by simp, hR, by rw [hsn]; exact hRt, by rw [hsn]; exact hil, hRd1, rfl⟩
            have hN : N i' = some b := by
              rw [Mem.set_app] at hb'
              split at hb'
              · rename_i e; subst e; rw [hM']; exact hb'
              · rename_i e; exact hold _ _ (fun e' => e e'.symm) hb'
            rw [Mem.set_ne _ _ _ _ (by have := lt_of_bnd hid7 hN; omega)]
            exact hN
          | false =>
            rw [hb] at hsn
            simp only [Bool.false_eq_true, if_false] at hsn
            simp -implicitDefEqProofs (maxSteps := 1000000) (disch := omega) only [↓xsP, ↓vc_seq, xsQ, xsT, xsR, xsD, ↓reduceIte, reduceCtorEq, eq_self, ne_eq, imp_self, forall_const, Nat.reduceEqDiff, Nat.reduceAdd, Nat.reduceSub, Nat.reduceMul, Nat.reduceLT, Nat.reduceLeDiff, Nat.reduceBEq, Nat.reduceDiv, Nat.reduceMod, Int.reduceToNat, Int.reduceNeg, Int.reduceAdd, Int.reduceSub, Int.reduceMul, Int.reduceEq, Int.reduceNe, Int.reduceLT, Int.reduceLE, Int.reduceGT, Int.reduceGE, h0, h1, h5, h6, hM']
            have hset' : (R.map Pr.row).set i [.int .i64 (l.getD j default).key, .int .i64 (l.getD j default).val] = (R.set i (l.getD j default)).map Pr.row := by rw [List.map_set]; rfl
            rw [hset']
            refine ⟨l.length - (j + 1), M.set id (.cells 38 ((R.set i (l.getD j default)).map Pr.row) 0), by omega, fun i' b hb' => ?_, j + 1, i + 1, R.set i (l.getD j default), by omega, by omega, rfl, by simp, by simp, by simpa using hR, ?_, by rw [hsn, List.length_append, ← hil]; rfl, ?_, rfl⟩
            · rw [Mem.set_app] at hb' ⊢
              split at hb'
              · rename_i e; rw [if_pos e]; exact hb'
              · rename_i e
                rw [if_neg e]
                have hN := hold _ _ (fun e' => e e'.symm) hb'
                rw [Mem.set_ne _ _ _ _ (by have := lt_of_bnd hid7 hN; omega)]
                exact hN
            · rw [hsn, List.set_eq_take_append_cons_drop, if_pos hiR, List.take_append]
              have hlen : (R.take i).length = i := by simp; omega
              rw [hlen, List.take_of_length_le (by omega), ← hRt]
              have e1 : i + 1 - i = 1 := by omega
              rw [e1]
              rfl
            · rw [List.drop_set, if_pos (by omega)]
              exact hRd1
      · have hjl : j = l.length := by omega
        subst hjl
        rw [List.take_length] at hRt hil
        have hM' := Mem.set_eq M id (.cells 38 (R.map Pr.row) 0)
        have hile : (i ≤ l.length) = True := eq_true (by omega)
        have hi0 : (0 ≤ (i : Int)) = True := eq_true (by omega)
        by_cases hz : i = 0
        · subst hz
          simp -implicitDefEqProofs (maxSteps := 1000000) (disch := omega) only [↓xsP, ↓vc_seq, xsQ, xsT, xsR, xsD, ↓reduceIte, reduceCtorEq, eq_self, ne_eq, imp_self, forall_const, Nat.reduceEqDiff, Nat.reduceAdd, Nat.reduceSub, Nat.reduceMul, Nat.reduceLT, Nat.reduceLeDiff, Nat.reduceBEq, Nat.reduceDiv, Nat.reduceMod, Int.reduceToNat, Int.reduceNeg, Int.reduceAdd, Int.reduceSub, Int.reduceMul, Int.reduceEq, Int.reduceNe, Int.reduceLT, Int.reduceLE, Int.reduceGT, Int.reduceGE, h0, h1, h5, h6, hM', hile, hi0, hR]
          have hnil : stays q l = [] := List.eq_nil_of_length_eq_zero hil.symm
          refine finI_of (XFin.here ⟨List.replicate l.length ⟨0, 0⟩ ++ R.drop l.length, by rw [hnil]; rfl, by simp [Pr.row, List.map_drop], by rw [hnil]; rfl, by rw [hnil]; exact Nat.zero_le _⟩)
        · have hz' : (i = 0) = False := eq_false hz
          have hin : (i = l.length) = False := eq_false (by omega)
          simp -implicitDefEqProofs (maxSteps := 1000000) (disch := omega) only [↓xsP, ↓vc_seq, xsQ, xsT, xsR, xsD, ↓reduceIte, reduceCtorEq, eq_self, ne_eq, imp_self, forall_const, Nat.reduceEqDiff, Nat.reduceAdd, Nat.reduceSub, Nat.reduceMul, Nat.reduceLT, Nat.reduceLeDiff, Nat.reduceBEq, Nat.reduceDiv, Nat.reduceMod, Int.reduceToNat, Int.reduceNeg, Int.reduceAdd, Int.reduceSub, Int.reduceMul, Int.reduceEq, Int.reduceNe, Int.reduceLT, Int.reduceLE, Int.reduceGT, Int.reduceGE, h0, h1, h5, h6, hM', hile, hi0, hz', hin, hR]
          have hsum : (i + (l.length - i) ≤ l.length) = True := eq_true (by omega)
          simp -implicitDefEqProofs (maxSteps := 1000000) (disch := omega) only [↓xsP, ↓vc_seq, xsQ, xsT, xsR, xsD, ↓reduceIte, reduceCtorEq, eq_self, ne_eq, imp_self, forall_const, Nat.reduceEqDiff, Nat.reduceAdd, Nat.reduceSub, Nat.reduceMul, Nat.reduceLT, Nat.reduceLeDiff, Nat.reduceBEq, Nat.reduceDiv, Nat.reduceMod, Int.reduceToNat, Int.reduceNeg, Int.reduceAdd, Int.reduceSub, Int.reduceMul, Int.reduceEq, Int.reduceNe, Int.reduceLT, Int.reduceLE, Int.reduceGT, Int.reduceGE, h0, h1, h5, h6, hsum, hi0, hile, hz', hin]
          have hlen : (R.take i).length = i := by simp; omega
          refine finI_of (XFin.here ⟨R.take i ++ List.replicate (l.length - i) ⟨0, 0⟩ ++ R.drop (i + (l.length - i)), by rw [← hil], by simp [Pr.row, List.map_drop, List.map_take], ?_, by rw [← hil]; simp; omega⟩)
          rw [← hil, List.append_assoc, List.take_append, hlen, Nat.sub_self, List.take_zero, List.append_nil, List.take_of_length_le (by omega)]
          exact hRt
end Go.X

/- What leaf's functions on ranges do, and slices.Grow and slices.Concat. -/

set_option linter.unusedVariables false
set_option linter.unusedSimpArgs false
set_option maxHeartbeats 20000000
set_option maxRecDepth 100000
namespace Go.X
open Go.Proofs.Try (prog)

theorem delete_none (M : Mem) (f : FuncId) (caps : List Lf) (q : Pr → Bool) (hq : ∀ p, XCalls Go.Proofs.Try.prog f ([.agg p.row] ++ caps.map .l) M fun r M' => r = .l (.bool (q p)) ∧ M' = M) :
    XCalls Go.Proofs.Try.prog 65 [.l (.sl []), .l (.clo f caps)] M fun r M' => r = .l (.sl []) ∧ M' = M := by
  refine xcalls_intro (rs := [.tmp 4]) Go.Proofs.Try.func65 rfl (by kernel_rfl) rfl rfl (by kernel_rfl) (by simp) ?_
  simp -implicitDefEqProofs (maxSteps := 1000000) (disch := omega) only [↓xsP, ↓vc_seq, xsQ, xsT, xsR, xsD, ↓reduceIte, reduceCtorEq, eq_self, ne_eq, imp_self, forall_const, Nat.reduceEqDiff, Nat.reduceAdd, Nat.reduceSub, Nat.reduceMul, Nat.reduceLT, Nat.reduceLeDiff, Nat.reduceBEq, Nat.reduceDiv, Nat.reduceMod, Int.reduceToNat, Int.reduceNeg, Int.reduceAdd, Int.reduceSub, Int.reduceMul, Int.reduceEq, Int.reduceNe, Int.reduceLT, Int.reduceLE, Int.reduceGT, Int.reduceGE]
  refine call_of (index_spec [] (by simp) _ _ (.inl rfl) _ _ q hq) ?_
  simp -implicitDefEqProofs (maxSteps := 1000000) (disch := omega) only [↓xsP, ↓vc_seq, xsQ, xsT, xsR, xsD, ↓reduceIte, reduceCtorEq, eq_self, ne_eq, imp_self, forall_const, Nat.reduceEqDiff, Nat.reduceAdd, Nat.reduceSub, Nat.reduceMul, Nat.reduceLT, Nat.reduceLeDiff, Nat.reduceBEq, Nat.reduceDiv, Nat.reduceMod, Int.reduceToNat, Int.reduceNeg, Int.reduceAdd, Int.reduceSub, Int.reduceMul, Int.reduceEq, Int.reduceNe, Int.reduceLT, Int.reduceLE, Int.reduceGT, Int.reduceGE, pidx]
  exact fin_ok (Mem.le_refl _) ⟨rfl, rfl⟩

def outside (lo hi : Int) (p : Pr) : Bool := decide (p.key < lo) || decide (p.key > hi)
theorem within_spec (l : List Pr) (hl : l.length ≤ 1000001) (lo hi : Int) (M : Mem) :
    XCalls Go.Proofs.Try.prog 63 [.l (.sl (l.map Pr.row)), .l (.int .i64 lo), .l (.int .i64 hi)] M fun r M' => r = .l (.sl ((stays (outside lo hi) l).map Pr.row)) ∧ M' = M := by
  refine xcalls_intro (rs := [.tmp 6]) Go.Proofs.Try.func63 rfl (by kernel_rfl) rfl rfl (by kernel_rfl) (by simp) ?_
  simp -implicitDefEqProofs (maxSteps := 1000000) (disch := omega) only [↓xsP, ↓vc_seq, xsQ, xsT, xsR, xsD, ↓reduceIte, reduceCtorEq, eq_self, ne_eq, imp_self, forall_const, Nat.reduceEqDiff, Nat.reduceAdd, Nat.reduceSub, Nat.reduceMul, Nat.reduceLT, Nat.reduceLeDiff, Nat.reduceBEq, Nat.reduceDiv, Nat.reduceMod, Int.reduceToNat, Int.reduceNeg, Int.reduceAdd, Int.reduceSub, Int.reduceMul, Int.reduceEq, Int.reduceNe, Int.reduceLT, Int.reduceLE, Int.reduceGT, Int.reduceGE]
  refine newI_intro fun a ha => ?_
  simp -implicitDefEqProofs (maxSteps := 1000000) (disch := omega) only [↓xsP, ↓vc_seq, xsQ, xsT, xsR, xsD, ↓reduceIte, reduceCtorEq, eq_self, ne_eq, imp_self, forall_const, Nat.reduceEqDiff, Nat.reduceAdd, Nat.reduceSub, Nat.reduceMul, Nat.reduceLT, Nat.reduceLeDiff, Nat.reduceBEq, Nat.reduceDiv, Nat.reduceMod, Int.reduceToNat, Int.reduceNeg, Int.reduceAdd, Int.reduceSub, Int.reduceMul, Int.reduceEq, Int.reduceNe, Int.reduceLT, Int.reduceLE, Int.reduceGT, Int.reduceGE]
  refine newI_intro fun b hb => ?_
  obtain ⟨hab, hb⟩ := bnd_new hb
  simp -implicitDefEqProofs (maxSteps := 1000000) (disch := omega) only [↓xsP, ↓vc_seq, xsQ, xsT, xsR, xsD, ↓reduceIte, reduceCtorEq, eq_self, ne_eq, imp_self, forall_const, Nat.reduceEqDiff, Nat.reduceAdd, Nat.reduceSub, Nat.reduceMul, Nat.reduceLT, Nat.reduceLeDiff, Nat.reduceBEq, Nat.reduceDiv, Nat.reduceMod, Int.reduceToNat, Int.reduceNeg, Int.reduceAdd, Int.reduceSub, Int.reduceMul, Int.reduceEq, Int.reduceNe, Int.reduceLT, Int.reduceLE, Int.reduceGT, Int.reduceGE]
  refine callI_of ((clone_live l hl _).mono ?_)
  rintro r M1 (⟨rfl, rfl, rfl⟩ | ⟨id, hid, rfl, rfl⟩)
  · simp -implicitDefEqProofs (maxSteps := 1000000) (disch := omega) only [↓xsP, ↓vc_seq, xsQ, xsT, xsR, xsD, ↓reduceIte, reduceCtorEq, eq_self, ne_eq, imp_self, forall_const, Nat.reduceEqDiff, Nat.reduceAdd, Nat.reduceSub, Nat.reduceMul, Nat.reduceLT, Nat.reduceLeDiff, Nat.reduceBEq, Nat.reduceDiv, Nat.reduceMod, Int.reduceToNat, Int.reduceNeg, Int.reduceAdd, Int.reduceSub, Int.reduceMul, Int.reduceEq, Int.reduceNe, Int.reduceLT, Int.reduceLE, Int.reduceGT, Int.reduceGE]
    refine callI_of (XCalls.wk ?_)
    refine (delete_none _ _ _ (outside lo hi) fun p => withinClo_spec (keep := 0) (keep' := 0) p a b lo hi _ ?_ ?_).mono ?_
    · rw [Mem.set_ne _ _ _ _ (by omega)]; exact Mem.set_eq _ _ _
    · exact Mem.set_eq _ _ _
    · rintro _ _ ⟨rfl, rfl⟩
      simp -implicitDefEqProofs (maxSteps := 1000000) (disch := omega) only [↓xsP, ↓vc_seq, xsQ, xsT, xsR, xsD, ↓reduceIte, reduceCtorEq, eq_self, ne_eq, imp_self, forall_const, Nat.reduceEqDiff, Nat.reduceAdd, Nat.reduceSub, Nat.reduceMul, Nat.reduceLT, Nat.reduceLeDiff, Nat.reduceBEq, Nat.reduceDiv, Nat.reduceMod, Int.reduceToNat, Int.reduceNeg, Int.reduceAdd, Int.reduceSub, Int.reduceMul, Int.reduceEq, Int.reduceNe, Int.reduceLT, Int.reduceLE, Int.reduceGT, Int.reduceGE]
      exact fin_ok (le_new (le_new (Mem.le_refl _) ha) hb) ⟨rfl, rfl⟩
  · obtain ⟨hbi, hid⟩ := bnd_new hid
    obtain ⟨hai, hid⟩ := bnd_new hid
    simp -implicitDefEqProofs (maxSteps := 1000000) (disch := omega) only [↓xsP, ↓vc_seq, xsQ, xsT, xsR, xsD, ↓reduceIte, reduceCtorEq, eq_self, ne_eq, imp_self, forall_const, Nat.reduceEqDiff, Nat.reduceAdd, Nat.reduceSub, Nat.reduceMul, Nat.reduceLT, Nat.reduceLeDiff, Nat.reduceBEq, Nat.reduceDiv, Nat.reduceMod, Int.reduceToNat, Int.reduceNeg, Int.reduceAdd, Int.reduceSub, Int.reduceMul, Int.reduceEq, Int.reduceNe, Int.reduceLT, Int.reduceLE, Int.reduceGT, Int.reduceGE]
    refine callI_of ((delete_spec l hl id _ (Mem.set_eq _ _ _) _ _ (outside lo hi) fun p M' h => withinClo_spec (keep := 0) (keep' := 0) p a b lo hi _ (h a _ (by omega) ?_) (h b _ (by omega) ?_)).mono ?_)
    · rw [Mem.set_ne _ _ _ _ (by omega), Mem.set_ne _ _ _ _ (by omega)]; exact Mem.set_eq _ _ _
    · rw [Mem.set_ne _ _ _ _ (by omega)]; exact Mem.set_eq _ _ _
    · rintro _ _ ⟨R, rfl, rfl, hR, hRl⟩
      simp -implicitDefEqProofs (maxSteps := 1000000) (disch := omega) only [↓xsP, ↓vc_seq, xsQ, xsT, xsR, xsD, ↓reduceIte, reduceCtorEq, eq_self, ne_eq, imp_self, forall_const, Nat.reduceEqDiff, Nat.reduceAdd, Nat.reduceSub, Nat.reduceMul, Nat.reduceLT, Nat.reduceLeDiff, Nat.reduceBEq, Nat.reduceDiv, Nat.reduceMod, Int.reduceToNat, Int.reduceNeg, Int.reduceAdd, Int.reduceSub, Int.reduceMul, Int.reduceEq, Int.reduceNe, Int.reduceLT, Int.reduceLE, Int.reduceGT, Int.reduceGE]
      refine finI_of (XFin.frz id (Mem.set_eq _ _ _) (XFin.le ?_ ⟨?_, rfl⟩))
      · intro i x hx
        have hi := lt_of_bnd ha hx
        simp only [Mem.set_app]
        (repeat rw [if_neg (by omega)])
        exact hx
      · simp [frzA, frz1, frzL, hRl, ← List.map_take, hR]

/-- Room for so many pairs. -/
theorem grow_spec (n : Nat) (hn : n ≤ 2000002) (M : Mem) :
    XCalls Go.Proofs.Try.prog 72 [.l .nils, .l (.int .i64 n)] M fun r M' => (r = .l .nils ∧ n = 0 ∧ M' = M) ∨ ∃ id, (∀ j, id ≤ j → M j = none) ∧ r = .l (.ms id 0 0) ∧ M' = M.set id (.cells 38 (List.replicate n [.int .i64 0, .int .i64 0]) 0) := by
  refine xcalls_intro (rs := [.tmp 4]) Go.Proofs.Try.func72 rfl (by kernel_rfl) rfl rfl (by kernel_rfl) (by simp) ?_
  have h0 : ((n : Int) < 0) = False := eq_false (by omega)
  simp -implicitDefEqProofs (maxSteps := 1000000) (disch := omega) only [↓xsP, ↓vc_seq, xsQ, xsT, xsR, xsD, ↓reduceIte, reduceCtorEq, eq_self, ne_eq, imp_self, forall_const, Nat.reduceEqDiff, Nat.reduceAdd, Nat.reduceSub, Nat.reduceMul, Nat.reduceLT, Nat.reduceLeDiff, Nat.reduceBEq, Nat.reduceDiv, Nat.reduceMod, Int.reduceToNat, Int.reduceNeg, Int.reduceAdd, Int.reduceSub, Int.reduceMul, Int.reduceEq, Int.reduceNe, Int.reduceLT, Int.reduceLE, Int.reduceGT, Int.reduceGE, h0]
  have hn0 : (n : Int) - 0 = n := by omega
  rw [hn0]
  refine condI_prop (fun hp => ?_) (fun hp => ?_)
  · simp -implicitDefEqProofs (maxSteps := 1000000) (disch := omega) only [↓xsP, ↓vc_seq, xsQ, xsT, xsR, xsD, ↓reduceIte, reduceCtorEq, eq_self, ne_eq, imp_self, forall_const, Nat.reduceEqDiff, Nat.reduceAdd, Nat.reduceSub, Nat.reduceMul, Nat.reduceLT, Nat.reduceLeDiff, Nat.reduceBEq, Nat.reduceDiv, Nat.reduceMod, Int.reduceToNat, Int.reduceNeg, Int.reduceAdd, Int.reduceSub, Int.reduceMul, Int.reduceEq, Int.reduceNe, Int.reduceLT, Int.reduceLE, Int.reduceGT, Int.reduceGE]
    refine app_zeros _ _ _ _ 38 _ _ _ ti_24 rfl ti_3 rfl ti_38 (by kernel_rfl) rfl rfl (by decide) _ (by omega) ?_ (by omega) fun id hid => ?_
    · exact Nat.le_trans (Nat.mul_le_mul_right _ (show (n : Int).toNat ≤ 2000002 by omega)) (by decide)
    · simp -implicitDefEqProofs (maxSteps := 1000000) (disch := omega) only [↓xsP, ↓vc_seq, xsQ, xsT, xsR, xsD, ↓reduceIte, reduceCtorEq, eq_self, ne_eq, imp_self, forall_const, Nat.reduceEqDiff, Nat.reduceAdd, Nat.reduceSub, Nat.reduceMul, Nat.reduceLT, Nat.reduceLeDiff, Nat.reduceBEq, Nat.reduceDiv, Nat.reduceMod, Int.reduceToNat, Int.reduceNeg, Int.reduceAdd, Int.reduceSub, Int.reduceMul, Int.reduceEq, Int.reduceNe, Int.reduceLT, Int.reduceLE, Int.reduceGT, Int.reduceGE]
      refine finI_of (XFin.here (.inr ⟨id, hid, rfl, rfl⟩))
  · simp -implicitDefEqProofs (maxSteps := 1000000) (disch := omega) only [↓xsP, ↓vc_seq, xsQ, xsT, xsR, xsD, ↓reduceIte, reduceCtorEq, eq_self, ne_eq, imp_self, forall_const, Nat.reduceEqDiff, Nat.reduceAdd, Nat.reduceSub, Nat.reduceMul, Nat.reduceLT, Nat.reduceLeDiff, Nat.reduceBEq, Nat.reduceDiv, Nat.reduceMod, Int.reduceToNat, Int.reduceNeg, Int.reduceAdd, Int.reduceSub, Int.reduceMul, Int.reduceEq, Int.reduceNe, Int.reduceLT, Int.reduceLE, Int.reduceGT, Int.reduceGE]
    have : n = 0 := by omega
    exact fin_ok (Mem.le_refl _) (.inl ⟨rfl, this, rfl⟩)

/-! ### slices.Concat -/
theorem lenA_src {M : Mem} {s : Lf} {l : List Pr} (h : SrcIs M s l) : lenA Go.Proofs.Try.prog M 24 (.l s) = some (.l (.int .i64 l.length)) := by
  rcases h with rfl | ⟨id, keep, rfl, hM⟩ <;> simp -implicitDefEqProofs (maxSteps := 1000000) (disch := omega) only [↓xsP, ↓vc_seq, xsQ, xsT, xsR, xsD, ↓reduceIte, reduceCtorEq, eq_self, ne_eq, imp_self, forall_const, Nat.reduceEqDiff, Nat.reduceAdd, Nat.reduceSub, Nat.reduceMul, Nat.reduceLT, Nat.reduceLeDiff, Nat.reduceBEq, Nat.reduceDiv, Nat.reduceMod, Int.reduceToNat, Int.reduceNeg, Int.reduceAdd, Int.reduceSub, Int.reduceMul, Int.reduceEq, Int.reduceNe, Int.reduceLT, Int.reduceLE, Int.reduceGT, Int.reduceGE]
theorem src_src {M : Mem} {s : Lf} {l : List Pr} (h : SrcIs M s l) {te : TI} (hs : te.size = 2) : srcRows Go.Proofs.Try.prog M 24 24 38 te (.l s) = some (l.map Pr.row) := by
  rcases h with rfl | ⟨id, keep, rfl, hM⟩
  · simp -implicitDefEqProofs (maxSteps := 1000000) (disch := omega) only [↓xsP, ↓vc_seq, xsQ, xsT, xsR, xsD, ↓reduceIte, reduceCtorEq, eq_self, ne_eq, imp_self, forall_const, Nat.reduceEqDiff, Nat.reduceAdd, Nat.reduceSub, Nat.reduceMul, Nat.reduceLT, Nat.reduceLeDiff, Nat.reduceBEq, Nat.reduceDiv, Nat.reduceMod, Int.reduceToNat, Int.reduceNeg, Int.reduceAdd, Int.reduceSub, Int.reduceMul, Int.reduceEq, Int.reduceNe, Int.reduceLT, Int.reduceLE, Int.reduceGT, Int.reduceGE]
    rw [hs, if_pos (rows2 l)]
  · simp -implicitDefEqProofs (maxSteps := 1000000) (disch := omega) only [↓xsP, ↓vc_seq, xsQ, xsT, xsR, xsD, ↓reduceIte, reduceCtorEq, eq_self, ne_eq, imp_self, forall_const, Nat.reduceEqDiff, Nat.reduceAdd, Nat.reduceSub, Nat.reduceMul, Nat.reduceLT, Nat.reduceLeDiff, Nat.reduceBEq, Nat.reduceDiv, Nat.reduceMod, Int.reduceToNat, Int.reduceNeg, Int.reduceAdd, Int.reduceSub, Int.reduceMul, Int.reduceEq, Int.reduceNe, Int.reduceLT, Int.reduceLE, Int.reduceGT, Int.reduceGE, hM]
    rw [List.take_of_length_le (by simp)]
theorem app_src {M : Mem} {s : Lf} {l : List Pr} (h : SrcIs M s l) {id len : Nat} {rows : List (List Lf)} {keep : Nat} (hM : M id = some (.cells 38 rows keep)) (hlen : len ≤ rows.length) (hk : keep ≤ len) (hb : len + l.length ≤ 2000002) {K : AV → Mem → Prop}
    (hc : ∀ id', (∀ j, id' ≤ j → M j = none) → K (.l (.ms id' 0 (len + l.length))) ((M.del id).set id' (.cells 38 (rows.take len ++ l.map Pr.row) keep))) :
    @appI Go.Proofs.Try.prog M 24 24 (.l (.ms id 0 len)) (.l s) ⟨K⟩ := by
  refine app_ms _ _ _ _ 38 _ _ ti_24 rfl ti_38 (by kernel_rfl) (by decide) id len _ (rows := rows) (keep := keep) (l.map Pr.row) hM (src_src h rfl) hlen hk ?_ ?_ ?_
  · exact Nat.le_trans (Nat.mul_le_mul_right _ (show len + (l.map Pr.row).length ≤ 2000002 by simpa using hb)) (by decide)
  · simp
    omega
  · simpa using hc
theorem app_src_nil {M : Mem} {s : Lf} (h : SrcIs M s []) {K : AV → Mem → Prop} (hc : K (.l .nils) M) : @appI Go.Proofs.Try.prog M 24 24 (.l .nils) (.l s) ⟨K⟩ :=
  app_nils _ _ _ _ 38 _ _ ti_24 rfl ti_38 (by kernel_rfl) (by decide) _ [] (src_src h rfl) (by simp) (by simp) (fun _ => hc) (fun h => absurd rfl h)

/-- So many pairs in the first rows. -/
def tot (L : List (List Pr)) : Nat := L.flatten.length
theorem tot_take {L : List (List Pr)} {i : Nat} (hi : i < L.length) : (L.take (i + 1)).flatten = (L.take i).flatten ++ L.getD i [] := by
  rw [List.take_add_one, List.flatten_append, List.getD_eq_getElem?_getD, List.getElem?_eq_getElem hi]
  simp
theorem tot_le (L : List (List Pr)) (i : Nat) : (L.take i).flatten.length ≤ L.flatten.length := by
  conv => rhs; rw [← List.take_append_drop i L]
  rw [List.flatten_append, List.length_append]
  omega
theorem concat_spec (L : List (List Pr)) (srcs : List Lf) (hlen : srcs.length = L.length) (hln : L.length ≤ 1000) (htot : L.flatten.length ≤ 2000002) (ids : Nat) (M : Mem) {keep : Nat} (hM : M ids = some (.cells 24 (srcs.map fun s => [s]) keep)) (hsrc : ∀ i, i < L.length → SrcIs M (srcs.getD i .nils) (L.getD i [])) :
    XCalls Go.Proofs.Try.prog 69 [.l (.ms ids 0 L.length)] M fun r M' => r = .l (.sl (L.flatten.map Pr.row)) ∧ M' = M := by
  refine xcalls_intro (rs := [.tmp 2]) Go.Proofs.Try.func69 rfl (by kernel_rfl) rfl rfl (by kernel_rfl) (by simp) ?_
  refine vc_seq_of ?_
  simp -implicitDefEqProofs (maxSteps := 1000000) (disch := omega) only [↓xsP, xsQ, xsT, xsR, xsD, ↓reduceIte, reduceCtorEq, eq_self, ne_eq, imp_self, forall_const, Nat.reduceEqDiff, Nat.reduceAdd, Nat.reduceSub, Nat.reduceMul, Nat.reduceLT, Nat.reduceLeDiff, Nat.reduceBEq, Nat.reduceDiv, Nat.reduceMod, Int.reduceToNat, Int.reduceNeg, Int.reduceAdd, Int.reduceSub, Int.reduceMul, Int.reduceEq, Int.reduceNe, Int.reduceLT, Int.reduceLE, Int.reduceGT, Int.reduceGE]
  refine vc_seq_of ?_
  simp -implicitDefEqProofs (maxSteps := 1000000) (disch := omega) only [↓xsP, xsQ, xsT, xsR, xsD, ↓reduceIte, reduceCtorEq, eq_self, ne_eq, imp_self, forall_const, Nat.reduceEqDiff, Nat.reduceAdd, Nat.reduceSub, Nat.reduceMul, Nat.reduceLT, Nat.reduceLeDiff, Nat.reduceBEq, Nat.reduceDiv, Nat.reduceMod, Int.reduceToNat, Int.reduceNeg, Int.reduceAdd, Int.reduceSub, Int.reduceMul, Int.reduceEq, Int.reduceNe, Int.reduceLT, Int.reduceLE, Int.reduceGT, Int.reduceGE]
  have hget : ∀ i, i < L.length → (srcs.map fun s => [s])[i]? = some [srcs.getD i .nils] := fun i hi => by
    rw [List.getElem?_map, List.getElem?_eq_getElem (by omega), List.getD_eq_getElem?_getD, List.getElem?_eq_getElem (by omega)]
    rfl
  refine vc_cut (fun fr N => N = M ∧ fr 0 = .l (.ms ids 0 L.length) ∧ fr 3 = .l (.int .i64 L.flatten.length)) ?_ ?_
  · simp -implicitDefEqProofs (maxSteps := 1000000) (disch := omega) only [↓xsP, ↓vc_seq, xsQ, xsT, xsR, xsD, ↓reduceIte, reduceCtorEq, eq_self, ne_eq, imp_self, forall_const, Nat.reduceEqDiff, Nat.reduceAdd, Nat.reduceSub, Nat.reduceMul, Nat.reduceLT, Nat.reduceLeDiff, Nat.reduceBEq, Nat.reduceDiv, Nat.reduceMod, Int.reduceToNat, Int.reduceNeg, Int.reduceAdd, Int.reduceSub, Int.reduceMul, Int.reduceEq, Int.reduceNe, Int.reduceLT, Int.reduceLE, Int.reduceGT, Int.reduceGE]
    refine loopI_of (xloop (by kernel_rfl) (fun k fr M' => ∃ i : Nat, i ≤ L.length ∧ k = L.length - i ∧ fr 0 = .l (.ms ids 0 L.length) ∧ fr 3 = .l (.int .i64 (L.take i).flatten.length) ∧ fr 9 = .l (.ms ids 0 L.length) ∧ fr 10 = .l (.int .i64 L.length) ∧ fr 11 = .l (.int .i64 i) ∧ M' = M) L.length ?_ ?_)
    · exact ⟨0, Nat.zero_le _, rfl, by simp -implicitDefEqProofs (maxSteps := 1000000) (disch := omega) only [↓xsP, ↓vc_seq, xsQ, xsT, xsR, xsD, ↓reduceIte, reduceCtorEq, eq_self, ne_eq, imp_self, forall_const, Nat.reduceEqDiff, Nat.reduceAdd, Nat.reduceSub, Nat.reduceMul, Nat.reduceLT, Nat.reduceLeDiff, Nat.reduceBEq, Nat.reduceDiv, Nat.reduceMod, Int.reduceToNat, Int.reduceNeg, Int.reduceAdd, Int.reduceSub, Int.reduceMul, Int.reduceEq, Int.reduceNe, Int.reduceLT, Int.reduceLE, Int.reduceGT, Int.reduceGE], by simp -implicitDefEqProofs (maxSteps := 1000000) (disch := omega) only [↓xsP, ↓vc_seq, xsQ, xsT, xsR, xsD, ↓reduceIte, reduceCtorEq, eq_self, ne_eq, imp_self, forall_const, Nat.reduceEqDiff, Nat.reduceAdd, Nat.reduceSub, Nat.reduceMul, Nat.reduceLT, Nat.reduceLeDiff, Nat.reduceBEq, Nat.reduceDiv, Nat.reduceMod, Int.reduceToNat, Int.reduceNeg, Int.reduceAdd, Int.reduceSub, Int.reduceMul, Int.reduceEq, Int.reduceNe, Int.reduceLT, Int.reduceLE, Int.reduceGT, Int.reduceGE, Int.cast_ofNat_Int], by simp -implicitDefEqProofs (maxSteps := 1000000) (disch := omega) only [↓xsP, ↓vc_seq, xsQ, xsT, xsR, xsD, ↓reduceIte, reduceCtorEq, eq_self, ne_eq, imp_self, forall_const, Nat.reduceEqDiff, Nat.reduceAdd, Nat.reduceSub, Nat.reduceMul, Nat.reduceLT, Nat.reduceLeDiff, Nat.reduceBEq, Nat.reduceDiv, Nat.reduceMod, Int.reduceToNat, Int.reduceNeg, Int.reduceAdd, Int.reduceSub, Int.reduceMul, Int.reduceEq, Int.reduceNe, Int.reduceLT, Int.reduceLE, Int.reduceGT, Int.reduceGE], by simp -implicitDefEqProofs (maxSteps := 1000000) (disch := omega) only [↓xsP, ↓vc_seq, xsQ, xsT, xsR, xsD, ↓reduceIte, reduceCtorEq, eq_self, ne_eq, imp_self, forall_const, Nat.reduceEqDiff, Nat.reduceAdd, Nat.reduceSub, Nat.reduceMul, Nat.reduceLT, Nat.reduceLeDiff, Nat.reduceBEq, Nat.reduceDiv, Nat.reduceMod, Int.reduceToNat, Int.reduceNeg, Int.reduceAdd, Int.reduceSub, Int.reduceMul, Int.reduceEq, Int.reduceNe, Int.reduceLT, Int.reduceLE, Int.reduceGT, Int.reduceGE], by simp -implicitDefEqProofs (maxSteps := 1000000) (disch := omega) only [↓xsP, ↓vc_seq, xsQ, xsT, xsR, xsD, ↓reduceIte, reduceCtorEq, eq_self, ne_eq, imp_self, forall_const, Nat.reduceEqDiff, Nat.reduceAdd, Nat.reduceSub, Nat.reduceMul, Nat.reduceLT, Nat.reduceLeDiff, Nat.reduceBEq, Nat.reduceDiv, Nat.reduceMod, Int.reduceToNat, Int.reduceNeg, Int.reduceAdd, Int.reduceSub, Int.reduceMul, Int.reduceEq, Int.reduceNe, Int.reduceLT, Int.reduceLE, Int.reduceGT, Int.reduceGE, Int.cast_ofNat_Int], rfl⟩
    · rintro k fr M' ⟨i, hi, rfl, h0, h3, h9, h10, h11, rfl⟩
      simp -implicitDefEqProofs (maxSteps := 1000000) (disch := omega) only [↓xsP, ↓vc_seq, xsQ, xsT, xsR, xsD, ↓reduceIte, reduceCtorEq, eq_self, ne_eq, imp_self, forall_const, Nat.reduceEqDiff, Nat.reduceAdd, Nat.reduceSub, Nat.reduceMul, Nat.reduceLT, Nat.reduceLeDiff, Nat.reduceBEq, Nat.reduceDiv, Nat.reduceMod, Int.reduceToNat, Int.reduceNeg, Int.reduceAdd, Int.reduceSub, Int.reduceMul, Int.reduceEq, Int.reduceNe, Int.reduceLT, Int.reduceLE, Int.reduceGT, Int.reduceGE, h0, h3, h9, h10, h11]
      refine condI_prop (fun hlt => ?_) (fun hlt => ?_)
      · have hi' : i < L.length := by omega
        have hg := hget i hi'
        have hs := hsrc i hi'
        have ht := tot_take hi'
        have htl := tot_le L (i + 1)
        rw [ht, List.length_append] at htl
        rcases hs with es | ⟨ids2, kp, es, hMs⟩
        · simp -implicitDefEqProofs (maxSteps := 1000000) (disch := omega) only [↓xsP, ↓vc_seq, xsQ, xsT, xsR, xsD, ↓reduceIte, reduceCtorEq, eq_self, ne_eq, imp_self, forall_const, Nat.reduceEqDiff, Nat.reduceAdd, Nat.reduceSub, Nat.reduceMul, Nat.reduceLT, Nat.reduceLeDiff, Nat.reduceBEq, Nat.reduceDiv, Nat.reduceMod, Int.reduceToNat, Int.reduceNeg, Int.reduceAdd, Int.reduceSub, Int.reduceMul, Int.reduceEq, Int.reduceNe, Int.reduceLT, Int.reduceLE, Int.reduceGT, Int.reduceGE, h0, h3, h9, h10, h11, hM, hg, es]
          have hneg : (((L.take i).flatten.length : Int) + ((L.getD i []).length : Int) < 0) = False := eq_false (by omega)
          simp -implicitDefEqProofs (maxSteps := 1000000) (disch := omega) only [↓xsP, ↓vc_seq, xsQ, xsT, xsR, xsD, ↓reduceIte, reduceCtorEq, eq_self, ne_eq, imp_self, forall_const, Nat.reduceEqDiff, Nat.reduceAdd, Nat.reduceSub, Nat.reduceMul, Nat.reduceLT, Nat.reduceLeDiff, Nat.reduceBEq, Nat.reduceDiv, Nat.reduceMod, Int.reduceToNat, Int.reduceNeg, Int.reduceAdd, Int.reduceSub, Int.reduceMul, Int.reduceEq, Int.reduceNe, Int.reduceLT, Int.reduceLE, Int.reduceGT, Int.reduceGE, h0, h3, h9, h10, h11, hM, hg, es, hneg]
          exact ⟨L.length - (i + 1), M', by omega, Mem.le_refl _, i + 1, by omega, rfl, by rw [ht]; simp, by simp, rfl⟩
        · simp -implicitDefEqProofs (maxSteps := 1000000) (disch := omega) only [↓xsP, ↓vc_seq, xsQ, xsT, xsR, xsD, ↓reduceIte, reduceCtorEq, eq_self, ne_eq, imp_self, forall_const, Nat.reduceEqDiff, Nat.reduceAdd, Nat.reduceSub, Nat.reduceMul, Nat.reduceLT, Nat.reduceLeDiff, Nat.reduceBEq, Nat.reduceDiv, Nat.reduceMod, Int.reduceToNat, Int.reduceNeg, Int.reduceAdd, Int.reduceSub, Int.reduceMul, Int.reduceEq, Int.reduceNe, Int.reduceLT, Int.reduceLE, Int.reduceGT, Int.reduceGE, h0, h3, h9, h10, h11, hM, hg, es]
          have hneg : (((L.take i).flatten.length : Int) + ((L.getD i []).length : Int) < 0) = False := eq_false (by omega)
          simp -implicitDefEqProofs (maxSteps := 1000000) (disch := omega) only [↓xsP, ↓vc_seq, xsQ, xsT, xsR, xsD, ↓reduceIte, reduceCtorEq, eq_self, ne_eq, imp_self, forall_const, Nat.reduceEqDiff, Nat.reduceAdd, Nat.reduceSub, Nat.reduceMul, Nat.reduceLT, Nat.reduceLeDiff, Nat.reduceBEq, Nat.reduceDiv, Nat.reduceMod, Int.reduceToNat, Int.reduceNeg, Int.reduceAdd, Int.reduceSub, Int.reduceMul, Int.reduceEq, Int.reduceNe, Int.reduceLT, Int.reduceLE, Int.reduceGT, Int.reduceGE, h0, h3, h9, h10, h11, hM, hg, es, hneg]
          exact ⟨L.length - (i + 1), M', by omega, Mem.le_refl _, i + 1, by omega, rfl, by rw [ht]; simp, by simp, rfl⟩
      · simp -implicitDefEqProofs (maxSteps := 1000000) (disch := omega) only [↓xsP, ↓vc_seq, xsQ, xsT, xsR, xsD, ↓reduceIte, reduceCtorEq, eq_self, ne_eq, imp_self, forall_const, Nat.reduceEqDiff, Nat.reduceAdd, Nat.reduceSub, Nat.reduceMul, Nat.reduceLT, Nat.reduceLeDiff, Nat.reduceBEq, Nat.reduceDiv, Nat.reduceMod, Int.reduceToNat, Int.reduceNeg, Int.reduceAdd, Int.reduceSub, Int.reduceMul, Int.reduceEq, Int.reduceNe, Int.reduceLT, Int.reduceLE, Int.reduceGT, Int.reduceGE, h0, h3, h9, h10, h11]
        have hil : i = L.length := by omega
        rw [hil, List.take_length]
  · rintro fr N ⟨rfl, h0, h3⟩
    refine vc_cut (fun fr M1 => fr 0 = .l (.ms ids 0 L.length) ∧ ((L.flatten = [] ∧ fr 6 = .l .nils ∧ M1 = N) ∨ ∃ idR rows, (∀ j, idR ≤ j → N j = none) ∧ fr 6 = .l (.ms idR 0 0) ∧ M1 = N.set idR (.cells 38 rows 0))) ?_ ?_
    · simp -implicitDefEqProofs (maxSteps := 1000000) (disch := omega) only [↓xsP, ↓vc_seq, xsQ, xsT, xsR, xsD, ↓reduceIte, reduceCtorEq, eq_self, ne_eq, imp_self, forall_const, Nat.reduceEqDiff, Nat.reduceAdd, Nat.reduceSub, Nat.reduceMul, Nat.reduceLT, Nat.reduceLeDiff, Nat.reduceBEq, Nat.reduceDiv, Nat.reduceMod, Int.reduceToNat, Int.reduceNeg, Int.reduceAdd, Int.reduceSub, Int.reduceMul, Int.reduceEq, Int.reduceNe, Int.reduceLT, Int.reduceLE, Int.reduceGT, Int.reduceGE, h0, h3]
      refine callI_of ((grow_spec L.flatten.length htot _).mono ?_)
      rintro r M1 (⟨rfl, h2, rfl⟩ | ⟨id, h1, rfl, rfl⟩)
      · simp -implicitDefEqProofs (maxSteps := 1000000) (disch := omega) only [↓xsP, ↓vc_seq, xsQ, xsT, xsR, xsD, ↓reduceIte, reduceCtorEq, eq_self, ne_eq, imp_self, forall_const, Nat.reduceEqDiff, Nat.reduceAdd, Nat.reduceSub, Nat.reduceMul, Nat.reduceLT, Nat.reduceLeDiff, Nat.reduceBEq, Nat.reduceDiv, Nat.reduceMod, Int.reduceToNat, Int.reduceNeg, Int.reduceAdd, Int.reduceSub, Int.reduceMul, Int.reduceEq, Int.reduceNe, Int.reduceLT, Int.reduceLE, Int.reduceGT, Int.reduceGE, h0, h3]
        exact .inl (List.eq_nil_of_length_eq_zero h2)
      · simp -implicitDefEqProofs (maxSteps := 1000000) (disch := omega) only [↓xsP, ↓vc_seq, xsQ, xsT, xsR, xsD, ↓reduceIte, reduceCtorEq, eq_self, ne_eq, imp_self, forall_const, Nat.reduceEqDiff, Nat.reduceAdd, Nat.reduceSub, Nat.reduceMul, Nat.reduceLT, Nat.reduceLeDiff, Nat.reduceBEq, Nat.reduceDiv, Nat.reduceMod, Int.reduceToNat, Int.reduceNeg, Int.reduceAdd, Int.reduceSub, Int.reduceMul, Int.reduceEq, Int.reduceNe, Int.reduceLT, Int.reduceLE, Int.reduceGT, Int.reduceGE, h0, h3]
        exact .inr ⟨id, _, h1, rfl, rfl⟩
    · clear h0 h3
      rintro fr M1 ⟨h0, hst⟩
      simp -implicitDefEqProofs (maxSteps := 1000000) (disch := omega) only [↓xsP, ↓vc_seq, xsQ, xsT, xsR, xsD, ↓reduceIte, reduceCtorEq, eq_self, ne_eq, imp_self, forall_const, Nat.reduceEqDiff, Nat.reduceAdd, Nat.reduceSub, Nat.reduceMul, Nat.reduceLT, Nat.reduceLeDiff, Nat.reduceBEq, Nat.reduceDiv, Nat.reduceMod, Int.reduceToNat, Int.reduceNeg, Int.reduceAdd, Int.reduceSub, Int.reduceMul, Int.reduceEq, Int.reduceNe, Int.reduceLT, Int.reduceLE, Int.reduceGT, Int.reduceGE, h0]
      refine loopI_of (xloop (by kernel_rfl) (fun k fr M' => ∃ i : Nat, i ≤ L.length ∧ k = L.length - i ∧ fr 25 = .l (.ms ids 0 L.length) ∧ fr 26 = .l (.int .i64 L.length) ∧ fr 27 = .l (.int .i64 i) ∧
        ((L.flatten = [] ∧ fr 6 = .l .nils ∧ M' = N) ∨ ∃ idR rows, (∀ j, idR ≤ j → N j = none) ∧ fr 6 = .l (.ms idR 0 (L.take i).flatten.length) ∧ M' = N.set idR (.cells 38 rows 0) ∧ rows.take (L.take i).flatten.length = (L.take i).flatten.map Pr.row ∧ (L.take i).flatten.length ≤ rows.length)) L.length ?_ ?_)
      · refine ⟨0, Nat.zero_le _, rfl, by simp -implicitDefEqProofs (maxSteps := 1000000) (disch := omega) only [↓xsP, ↓vc_seq, xsQ, xsT, xsR, xsD, ↓reduceIte, reduceCtorEq, eq_self, ne_eq, imp_self, forall_const, Nat.reduceEqDiff, Nat.reduceAdd, Nat.reduceSub, Nat.reduceMul, Nat.reduceLT, Nat.reduceLeDiff, Nat.reduceBEq, Nat.reduceDiv, Nat.reduceMod, Int.reduceToNat, Int.reduceNeg, Int.reduceAdd, Int.reduceSub, Int.reduceMul, Int.reduceEq, Int.reduceNe, Int.reduceLT, Int.reduceLE, Int.reduceGT, Int.reduceGE], by simp -implicitDefEqProofs (maxSteps := 1000000) (disch := omega) only [↓xsP, ↓vc_seq, xsQ, xsT, xsR, xsD, ↓reduceIte, reduceCtorEq, eq_self, ne_eq, imp_self, forall_const, Nat.reduceEqDiff, Nat.reduceAdd, Nat.reduceSub, Nat.reduceMul, Nat.reduceLT, Nat.reduceLeDiff, Nat.reduceBEq, Nat.reduceDiv, Nat.reduceMod, Int.reduceToNat, Int.reduceNeg, Int.reduceAdd, Int.reduceSub, Int.reduceMul, Int.reduceEq, Int.reduceNe, Int.reduceLT, Int.reduceLE, Int.reduceGT, Int.reduceGE], by simp -implicitDefEqProofs (maxSteps := 1000000) (disch := omega) only [↓xsP, ↓vc_seq, xsQ, xsT, xsR, xsD, ↓reduceIte, reduceCtorEq, eq_self, ne_eq, imp_self, forall_const, Nat.reduceEqDiff, Nat.reduceAdd, Nat.reduceSub, Nat.reduceMul, Nat.reduceLT, Nat.reduceLeDiff, Nat.reduceBEq, Nat.reduceDiv, Nat.reduceMod, Int.reduceToNat, Int.reduceNeg, Int.reduceAdd, Int.reduceSub, Int.reduceMul, Int.reduceEq, Int.reduceNe, Int.reduceLT, Int.reduceLE, Int.reduceGT, Int.reduceGE, Int.cast_ofNat_Int], ?_⟩
        rcases hst with ⟨h1, h2, h3⟩ | ⟨idR, rows, h1, h2, h3⟩
        · exact .inl ⟨h1, by simp -implicitDefEqProofs (maxSteps := 1000000) (disch := omega) only [↓xsP, ↓vc_seq, xsQ, xsT, xsR, xsD, ↓reduceIte, reduceCtorEq, eq_self, ne_eq, imp_self, forall_const, Nat.reduceEqDiff, Nat.reduceAdd, Nat.reduceSub, Nat.reduceMul, Nat.reduceLT, Nat.reduceLeDiff, Nat.reduceBEq, Nat.reduceDiv, Nat.reduceMod, Int.reduceToNat, Int.reduceNeg, Int.reduceAdd, Int.reduceSub, Int.reduceMul, Int.reduceEq, Int.reduceNe, Int.reduceLT, Int.reduceLE, Int.reduceGT, Int.reduceGE, h2], h3⟩
        · exact .inr ⟨idR, rows, h1, by simp -implicitDefEqProofs (maxSteps := 1000000) (disch := omega) only [↓xsP, ↓vc_seq, xsQ, xsT, xsR, xsD, ↓reduceIte, reduceCtorEq, eq_self, ne_eq, imp_self, forall_const, Nat.reduceEqDiff, Nat.reduceAdd, Nat.reduceSub, Nat.reduceMul, Nat.reduceLT, Nat.reduceLeDiff, Nat.reduceBEq, Nat.reduceDiv, Nat.reduceMod, Int.reduceToNat, Int.reduceNeg, Int.reduceAdd, Int.reduceSub, Int.reduceMul, Int.reduceEq, Int.reduceNe, Int.reduceLT, Int.reduceLE, Int.reduceGT, Int.reduceGE, h2], h3, rfl, Nat.zero_le _⟩
      · rintro k fr M' ⟨i, hi, rfl, h25, h26, h27, hst⟩
        simp -implicitDefEqProofs (maxSteps := 1000000) (disch := omega) only [↓xsP, ↓vc_seq, xsQ, xsT, xsR, xsD, ↓reduceIte, reduceCtorEq, eq_self, ne_eq, imp_self, forall_const, Nat.reduceEqDiff, Nat.reduceAdd, Nat.reduceSub, Nat.reduceMul, Nat.reduceLT, Nat.reduceLeDiff, Nat.reduceBEq, Nat.reduceDiv, Nat.reduceMod, Int.reduceToNat, Int.reduceNeg, Int.reduceAdd, Int.reduceSub, Int.reduceMul, Int.reduceEq, Int.reduceNe, Int.reduceLT, Int.reduceLE, Int.reduceGT, Int.reduceGE, h25, h26, h27]
        refine condI_prop (fun hlt => ?_) (fun hlt => ?_)
        · have hi' : i < L.length := by omega
          have hg := hget i hi'
          have hs := hsrc i hi'
          have ht := tot_take hi'
          have htl := tot_le L (i + 1)
          rw [ht, List.length_append] at htl
          rcases hst with ⟨h1, h6, rfl⟩ | ⟨idR, rows, h1, h6, rfl, h7, h8⟩
          · have hLi : L.getD i [] = [] := by
              rw [h1] at htl
              simp only [List.length_nil] at htl
              exact List.eq_nil_of_length_eq_zero (by omega)
            rw [hLi] at hs
            simp -implicitDefEqProofs (maxSteps := 1000000) (disch := omega) only [↓xsP, ↓vc_seq, xsQ, xsT, xsR, xsD, ↓reduceIte, reduceCtorEq, eq_self, ne_eq, imp_self, forall_const, Nat.reduceEqDiff, Nat.reduceAdd, Nat.reduceSub, Nat.reduceMul, Nat.reduceLT, Nat.reduceLeDiff, Nat.reduceBEq, Nat.reduceDiv, Nat.reduceMod, Int.reduceToNat, Int.reduceNeg, Int.reduceAdd, Int.reduceSub, Int.reduceMul, Int.reduceEq, Int.reduceNe, Int.reduceLT, Int.reduceLE, Int.reduceGT, Int.reduceGE, h25, h26, h27, hM, hg, h6]
            refine app_src_nil hs ?_
            simp -implicitDefEqProofs (maxSteps := 1000000) (disch := omega) only [↓xsP, ↓vc_seq, xsQ, xsT, xsR, xsD, ↓reduceIte, reduceCtorEq, eq_self, ne_eq, imp_self, forall_const, Nat.reduceEqDiff, Nat.reduceAdd, Nat.reduceSub, Nat.reduceMul, Nat.reduceLT, Nat.reduceLeDiff, Nat.reduceBEq, Nat.reduceDiv, Nat.reduceMod, Int.reduceToNat, Int.reduceNeg, Int.reduceAdd, Int.reduceSub, Int.reduceMul, Int.reduceEq, Int.reduceNe, Int.reduceLT, Int.reduceLE, Int.reduceGT, Int.reduceGE, h25, h26, h27, h6]
            exact ⟨L.length - (i + 1), M', by omega, Mem.le_refl _, i + 1, by omega, rfl, by simp, .inl ⟨h1, rfl⟩⟩
          · have hltR : ids < idR := lt_of_bnd h1 hM
            have hM2 : (N.set idR (.cells 38 rows 0)) ids = some (.cells 24 (srcs.map fun s => [s]) keep) := by rw [Mem.set_ne _ _ _ _ (by omega)]; exact hM
            simp -implicitDefEqProofs (maxSteps := 1000000) (disch := omega) only [↓xsP, ↓vc_seq, xsQ, xsT, xsR, xsD, ↓reduceIte, reduceCtorEq, eq_self, ne_eq, imp_self, forall_const, Nat.reduceEqDiff, Nat.reduceAdd, Nat.reduceSub, Nat.reduceMul, Nat.reduceLT, Nat.reduceLeDiff, Nat.reduceBEq, Nat.reduceDiv, Nat.reduceMod, Int.reduceToNat, Int.reduceNeg, Int.reduceAdd, Int.reduceSub, Int.reduceMul, Int.reduceEq, Int.reduceNe, Int.reduceLT, Int.reduceLE, Int.reduceGT, Int.reduceGE, h25, h26, h27, hM, hg, h6]
            have hs' : SrcIs (N.set idR (.cells 38 rows 0)) (srcs.getD i .nils) (L.getD i []) := hs.le (le_new (Mem.le_refl _) h1)
            refine app_src hs' (Mem.set_eq _ _ _) h8 (Nat.zero_le _) (by omega) fun id' hid' => ?_
            obtain ⟨hRi, hid'⟩ := bnd_new hid'
            simp -implicitDefEqProofs (maxSteps := 1000000) (disch := omega) only [↓xsP, ↓vc_seq, xsQ, xsT, xsR, xsD, ↓reduceIte, reduceCtorEq, eq_self, ne_eq, imp_self, forall_const, Nat.reduceEqDiff, Nat.reduceAdd, Nat.reduceSub, Nat.reduceMul, Nat.reduceLT, Nat.reduceLeDiff, Nat.reduceBEq, Nat.reduceDiv, Nat.reduceMod, Int.reduceToNat, Int.reduceNeg, Int.reduceAdd, Int.reduceSub, Int.reduceMul, Int.reduceEq, Int.reduceNe, Int.reduceLT, Int.reduceLE, Int.reduceGT, Int.reduceGE, h25, h26, h27, h6]
            refine ⟨L.length - (i + 1), N.set id' (.cells 38 (rows.take (L.take i).flatten.length ++ (L.getD i []).map Pr.row) 0), by omega, le_clone (h1 _ (Nat.le_refl _)), i + 1, by omega, rfl, by simp, .inr ⟨id', _, hid', by rw [ht, List.length_append], rfl, ?_, ?_⟩⟩
            · rw [h7, ht, List.map_append, List.take_of_length_le (by simp only [List.length_append, List.length_map]; exact Nat.le_refl _)]
            · rw [h7, ht]
              simp only [List.length_append, List.length_map]
              exact Nat.le_refl _
        · simp -implicitDefEqProofs (maxSteps := 1000000) (disch := omega) only [↓xsP, ↓vc_seq, xsQ, xsT, xsR, xsD, ↓reduceIte, reduceCtorEq, eq_self, ne_eq, imp_self, forall_const, Nat.reduceEqDiff, Nat.reduceAdd, Nat.reduceSub, Nat.reduceMul, Nat.reduceLT, Nat.reduceLeDiff, Nat.reduceBEq, Nat.reduceDiv, Nat.reduceMod, Int.reduceToNat, Int.reduceNeg, Int.reduceAdd, Int.reduceSub, Int.reduceMul, Int.reduceEq, Int.reduceNe, Int.reduceLT, Int.reduceLE, Int.reduceGT, Int.reduceGE, h25, h26, h27]
          have hil : i = L.length := by omega
          subst hil
          rw [List.take_length] at hst
          rcases hst with ⟨h1, h6, rfl⟩ | ⟨idR, rows, h1, h6, rfl, h7, h8⟩
          · simp -implicitDefEqProofs (maxSteps := 1000000) (disch := omega) only [↓xsP, ↓vc_seq, xsQ, xsT, xsR, xsD, ↓reduceIte, reduceCtorEq, eq_self, ne_eq, imp_self, forall_const, Nat.reduceEqDiff, Nat.reduceAdd, Nat.reduceSub, Nat.reduceMul, Nat.reduceLT, Nat.reduceLeDiff, Nat.reduceBEq, Nat.reduceDiv, Nat.reduceMod, Int.reduceToNat, Int.reduceNeg, Int.reduceAdd, Int.reduceSub, Int.reduceMul, Int.reduceEq, Int.reduceNe, Int.reduceLT, Int.reduceLE, Int.reduceGT, Int.reduceGE, h6]
            refine finI_of (XFin.wk (XFin.here ⟨?_, rfl⟩))
            rw [h1]
            rfl
          · simp -implicitDefEqProofs (maxSteps := 1000000) (disch := omega) only [↓xsP, ↓vc_seq, xsQ, xsT, xsR, xsD, ↓reduceIte, reduceCtorEq, eq_self, ne_eq, imp_self, forall_const, Nat.reduceEqDiff, Nat.reduceAdd, Nat.reduceSub, Nat.reduceMul, Nat.reduceLT, Nat.reduceLeDiff, Nat.reduceBEq, Nat.reduceDiv, Nat.reduceMod, Int.reduceToNat, Int.reduceNeg, Int.reduceAdd, Int.reduceSub, Int.reduceMul, Int.reduceEq, Int.reduceNe, Int.reduceLT, Int.reduceLE, Int.reduceGT, Int.reduceGE, h6]
            refine finI_of (XFin.frz idR (Mem.set_eq _ _ _) (XFin.le ?_ ⟨?_, rfl⟩))
            · exact le_new (le_new (Mem.le_refl _) h1) h1
            · simp only [frzA, frz1, frzL, Nat.zero_add, List.drop_zero, h8, h7, eq_self, and_self, if_true]
end Go.X

/- What leaf.with does. -/

set_option linter.unusedVariables false
set_option linter.unusedSimpArgs false
set_option maxHeartbeats 20000000
set_option maxRecDepth 100000
namespace Go.X
open Go.Proofs.Try (prog)

/-- How many pairs at the front have lesser keys. -/
def wat (k : Int) : List Pr → Nat
  | [] => 0
  | x :: r => if x.key < k then wat k r + 1 else 0
theorem wat_eq (k : Int) : ∀ (l : List Pr) (i : Nat), (∀ j, j < i → j < l.length → (l.getD j default).key < k) → i ≤ l.length → (i < l.length → ¬ (l.getD i default).key < k) → wat k l = i
  | [], i, _, hi, _ => by simp at hi; subst hi; rfl
  | x :: r, 0, _, _, h => by
    have := h (by simp)
    simp only [List.getD_cons_zero] at this
    simp only [wat, if_neg this]
  | x :: r, i + 1, h1, hi, h2 => by
    have h0 := h1 0 (by omega) (by simp)
    simp only [List.getD_cons_zero] at h0
    simp only [wat, if_pos h0]
    rw [wat_eq k r i (fun j hj hj2 => by simpa using h1 (j + 1) (by omega) (by simpa using hj2)) (by simpa using hi) (fun h => by simpa using h2 (by simpa using h))]
def withRest (l : List Pr) (p : Pr) : List Pr := match l.drop (wat p.key l) with
  | [] => []
  | x :: r => if x.key = p.key then r else x :: r
def withL (l : List Pr) (p : Pr) : List Pr := l.take (wat p.key l) ++ [p] ++ withRest l p
theorem withRest_len (l : List Pr) (p : Pr) : (withRest l p).length ≤ l.length - wat p.key l := by
  have : (l.drop (wat p.key l)).length = l.length - wat p.key l := by simp
  unfold withRest
  split
  · simp
  · rename_i x r h
    rw [h] at this
    simp only [List.length_cons] at this
    split
    · omega
    · simp only [List.length_cons]; omega

theorem with_spec (l : List Pr) (hl : l.length ≤ 1000001) (p : Pr) (M : Mem) :
    XCalls Go.Proofs.Try.prog 68 [.l (.sl (l.map Pr.row)), .agg p.row] M fun r M' => r = .l (.sl ((withL l p).map Pr.row)) ∧ M' = M := by
  refine xcalls_intro (rs := [.tmp 4]) Go.Proofs.Try.func68 rfl (by kernel_rfl) rfl rfl (by kernel_rfl) (by simp) ?_
  refine vc_seq_of ?_
  simp -implicitDefEqProofs (maxSteps := 1000000) (disch := omega) only [↓xsP, xsQ, xsT, xsR, xsD, ↓reduceIte, reduceCtorEq, eq_self, ne_eq, imp_self, forall_const, Nat.reduceEqDiff, Nat.reduceAdd, Nat.reduceSub, Nat.reduceMul, Nat.reduceLT, Nat.reduceLeDiff, Nat.reduceBEq, Nat.reduceDiv, Nat.reduceMod, Int.reduceToNat, Int.reduceNeg, Int.reduceAdd, Int.reduceSub, Int.reduceMul, Int.reduceEq, Int.reduceNe, Int.reduceLT, Int.reduceLE, Int.reduceGT, Int.reduceGE]
  refine newI_intro fun id3 hid3 => ?_
  simp -implicitDefEqProofs (maxSteps := 1000000) (disch := omega) only [↓xsP, xsQ, xsT, xsR, xsD, ↓reduceIte, reduceCtorEq, eq_self, ne_eq, imp_self, forall_const, Nat.reduceEqDiff, Nat.reduceAdd, Nat.reduceSub, Nat.reduceMul, Nat.reduceLT, Nat.reduceLeDiff, Nat.reduceBEq, Nat.reduceDiv, Nat.reduceMod, Int.reduceToNat, Int.reduceNeg, Int.reduceAdd, Int.reduceSub, Int.reduceMul, Int.reduceEq, Int.reduceNe, Int.reduceLT, Int.reduceLE, Int.reduceGT, Int.reduceGE]
  have hM3 := Mem.set_eq M id3 (.cells 38 [p.row] 0)
  have hMN : M.le (M.set id3 (.cells 38 [p.row] 0)) := le_new (Mem.le_refl _) hid3
  refine vc_seq_of ?_
  simp -implicitDefEqProofs (maxSteps := 1000000) (disch := omega) only [↓xsP, xsQ, xsT, xsR, xsD, ↓reduceIte, reduceCtorEq, eq_self, ne_eq, imp_self, forall_const, Nat.reduceEqDiff, Nat.reduceAdd, Nat.reduceSub, Nat.reduceMul, Nat.reduceLT, Nat.reduceLeDiff, Nat.reduceBEq, Nat.reduceDiv, Nat.reduceMod, Int.reduceToNat, Int.reduceNeg, Int.reduceAdd, Int.reduceSub, Int.reduceMul, Int.reduceEq, Int.reduceNe, Int.reduceLT, Int.reduceLE, Int.reduceGT, Int.reduceGE]
  refine vc_cut (fun fr N => N = M.set id3 (.cells 38 [p.row] 0) ∧ fr 0 = .l (.sl (l.map Pr.row)) ∧ fr 3 = .l (.ptr id3 0 0) ∧ fr 5 = .l (.int .i64 (wat p.key l)) ∧ wat p.key l ≤ l.length) ?_ ?_
  · simp -implicitDefEqProofs (maxSteps := 1000000) (disch := omega) only [↓xsP, ↓vc_seq, xsQ, xsT, xsR, xsD, ↓reduceIte, reduceCtorEq, eq_self, ne_eq, imp_self, forall_const, Nat.reduceEqDiff, Nat.reduceAdd, Nat.reduceSub, Nat.reduceMul, Nat.reduceLT, Nat.reduceLeDiff, Nat.reduceBEq, Nat.reduceDiv, Nat.reduceMod, Int.reduceToNat, Int.reduceNeg, Int.reduceAdd, Int.reduceSub, Int.reduceMul, Int.reduceEq, Int.reduceNe, Int.reduceLT, Int.reduceLE, Int.reduceGT, Int.reduceGE]
    refine loopI_of (xloop (by kernel_rfl) (fun k fr M' => ∃ i : Nat, i ≤ l.length ∧ k = l.length - i ∧ fr 0 = .l (.sl (l.map Pr.row)) ∧ fr 3 = .l (.ptr id3 0 0) ∧ fr 5 = .l (.int .i64 i) ∧ (∀ j, j < i → j < l.length → (l.getD j default).key < p.key) ∧ M' = M.set id3 (.cells 38 [p.row] 0)) l.length ?_ ?_)
    · exact ⟨0, Nat.zero_le _, rfl, by simp -implicitDefEqProofs (maxSteps := 1000000) (disch := omega) only [↓xsP, ↓vc_seq, xsQ, xsT, xsR, xsD, ↓reduceIte, reduceCtorEq, eq_self, ne_eq, imp_self, forall_const, Nat.reduceEqDiff, Nat.reduceAdd, Nat.reduceSub, Nat.reduceMul, Nat.reduceLT, Nat.reduceLeDiff, Nat.reduceBEq, Nat.reduceDiv, Nat.reduceMod, Int.reduceToNat, Int.reduceNeg, Int.reduceAdd, Int.reduceSub, Int.reduceMul, Int.reduceEq, Int.reduceNe, Int.reduceLT, Int.reduceLE, Int.reduceGT, Int.reduceGE], by simp -implicitDefEqProofs (maxSteps := 1000000) (disch := omega) only [↓xsP, ↓vc_seq, xsQ, xsT, xsR, xsD, ↓reduceIte, reduceCtorEq, eq_self, ne_eq, imp_self, forall_const, Nat.reduceEqDiff, Nat.reduceAdd, Nat.reduceSub, Nat.reduceMul, Nat.reduceLT, Nat.reduceLeDiff, Nat.reduceBEq, Nat.reduceDiv, Nat.reduceMod, Int.reduceToNat, Int.reduceNeg, Int.reduceAdd, Int.reduceSub, Int.reduceMul, Int.reduceEq, Int.reduceNe, Int.reduceLT, Int.reduceLE, Int.reduceGT, Int.reduceGE], by simp -implicitDefEqProofs (maxSteps := 1000000) (disch := omega) only [↓xsP, ↓vc_seq, xsQ, xsT, xsR, xsD, ↓reduceIte, reduceCtorEq, eq_self, ne_eq, imp_self, forall_const, Nat.reduceEqDiff, Nat.reduceAdd, Nat.reduceSub, Nat.reduceMul, Nat.reduceLT, Nat.reduceLeDiff, Nat.reduceBEq, Nat.reduceDiv, Nat.reduceMod, Int.reduceToNat, Int.reduceNeg, Int.reduceAdd, Int.reduceSub, Int.reduceMul, Int.reduceEq, Int.reduceNe, Int.reduceLT, Int.reduceLE, Int.reduceGT, Int.reduceGE, Int.cast_ofNat_Int], fun j h => by omega, rfl⟩
    · rintro k fr M' ⟨i, hi, rfl, h0, h3, h5, hlow, rfl⟩
      simp -implicitDefEqProofs (maxSteps := 1000000) (disch := omega) only [↓xsP, ↓vc_seq, xsQ, xsT, xsR, xsD, ↓reduceIte, reduceCtorEq, eq_self, ne_eq, imp_self, forall_const, Nat.reduceEqDiff, Nat.reduceAdd, Nat.reduceSub, Nat.reduceMul, Nat.reduceLT, Nat.reduceLeDiff, Nat.reduceBEq, Nat.reduceDiv, Nat.reduceMod, Int.reduceToNat, Int.reduceNeg, Int.reduceAdd, Int.reduceSub, Int.reduceMul, Int.reduceEq, Int.reduceNe, Int.reduceLT, Int.reduceLE, Int.reduceGT, Int.reduceGE, h0, h3, h5]
      refine xquiet (by kernel_rfl) (by kernel_rfl) (by kernel_rfl) ?_
      simp -implicitDefEqProofs (maxSteps := 1000000) (disch := omega) only [↓xsP, ↓vc_seq, xsQ, xsT, xsR, xsD, ↓reduceIte, reduceCtorEq, eq_self, ne_eq, imp_self, forall_const, Nat.reduceEqDiff, Nat.reduceAdd, Nat.reduceSub, Nat.reduceMul, Nat.reduceLT, Nat.reduceLeDiff, Nat.reduceBEq, Nat.reduceDiv, Nat.reduceMod, Int.reduceToNat, Int.reduceNeg, Int.reduceAdd, Int.reduceSub, Int.reduceMul, Int.reduceEq, Int.reduceNe, Int.reduceLT, Int.reduceLE, Int.reduceGT, Int.reduceGE, h0, h3, h5]
      refine gI_prop (fun hlt => ?_) (fun hlt => ?_)
      · simp -implicitDefEqProofs (maxSteps := 1000000) (disch := omega) only [↓xsP, ↓vc_seq, xsQ, xsT, xsR, xsD, ↓reduceIte, reduceCtorEq, eq_self, ne_eq, imp_self, forall_const, Nat.reduceEqDiff, Nat.reduceAdd, Nat.reduceSub, Nat.reduceMul, Nat.reduceLT, Nat.reduceLeDiff, Nat.reduceBEq, Nat.reduceDiv, Nat.reduceMod, Int.reduceToNat, Int.reduceNeg, Int.reduceAdd, Int.reduceSub, Int.reduceMul, Int.reduceEq, Int.reduceNe, Int.reduceLT, Int.reduceLE, Int.reduceGT, Int.reduceGE, h0, h3, h5, hlt]
        refine condI_prop (fun hk => ?_) (fun hk => ?_)
        · simp -implicitDefEqProofs (maxSteps := 1000000) (disch := omega) only [↓xsP, ↓vc_seq, xsQ, xsT, xsR, xsD, ↓reduceIte, reduceCtorEq, eq_self, ne_eq, imp_self, forall_const, Nat.reduceEqDiff, Nat.reduceAdd, Nat.reduceSub, Nat.reduceMul, Nat.reduceLT, Nat.reduceLeDiff, Nat.reduceBEq, Nat.reduceDiv, Nat.reduceMod, Int.reduceToNat, Int.reduceNeg, Int.reduceAdd, Int.reduceSub, Int.reduceMul, Int.reduceEq, Int.reduceNe, Int.reduceLT, Int.reduceLE, Int.reduceGT, Int.reduceGE, h0, h3, h5]
          refine ⟨l.length - (i + 1), _, by omega, Mem.le_refl _, i + 1, by omega, rfl, by simp, fun j h1 h2 => ?_, rfl⟩
          by_cases e : j = i
          · subst e; exact hk
          · exact hlow j (by omega) h2
        · simp -implicitDefEqProofs (maxSteps := 1000000) (disch := omega) only [↓xsP, ↓vc_seq, xsQ, xsT, xsR, xsD, ↓reduceIte, reduceCtorEq, eq_self, ne_eq, imp_self, forall_const, Nat.reduceEqDiff, Nat.reduceAdd, Nat.reduceSub, Nat.reduceMul, Nat.reduceLT, Nat.reduceLeDiff, Nat.reduceBEq, Nat.reduceDiv, Nat.reduceMod, Int.reduceToNat, Int.reduceNeg, Int.reduceAdd, Int.reduceSub, Int.reduceMul, Int.reduceEq, Int.reduceNe, Int.reduceLT, Int.reduceLE, Int.reduceGT, Int.reduceGE, h0, h3, h5]
          have hw := wat_eq p.key l i hlow hi (fun _ => hk)
          rw [hw]
          simp [hi, Pr.row]
      · simp -implicitDefEqProofs (maxSteps := 1000000) (disch := omega) only [↓xsP, ↓vc_seq, xsQ, xsT, xsR, xsD, ↓reduceIte, reduceCtorEq, eq_self, ne_eq, imp_self, forall_const, Nat.reduceEqDiff, Nat.reduceAdd, Nat.reduceSub, Nat.reduceMul, Nat.reduceLT, Nat.reduceLeDiff, Nat.reduceBEq, Nat.reduceDiv, Nat.reduceMod, Int.reduceToNat, Int.reduceNeg, Int.reduceAdd, Int.reduceSub, Int.reduceMul, Int.reduceEq, Int.reduceNe, Int.reduceLT, Int.reduceLE, Int.reduceGT, Int.reduceGE, h0, h3, h5, hlt]
        have hw := wat_eq p.key l i hlow hi (fun h => by omega)
        rw [hw]
        simp [hi, Pr.row]
  · rintro fr N ⟨rfl, h0, h3, h5, hwl⟩
    have hwr : withRest l p = match l.drop (wat p.key l) with
      | [] => []
      | x :: r => if x.key = p.key then r else x :: r := rfl
    have hwlen := withRest_len l p
    have hwe : withL l p = l.take (wat p.key l) ++ [p] ++ withRest l p := rfl
    generalize wat p.key l = w at h5 hwl hwr hwlen hwe
    generalize withRest l p = rest at hwr hwlen hwe
    have hw0 : (0 ≤ (w : Int)) = True := eq_true (by omega)
    have hwle : (w ≤ l.length) = True := eq_true hwl
    have hrows : (∀ r, r ∈ l.map Pr.row → r.length = 2) = True := eq_true (rows2 l)
    have hdr : List.take (l.length - w) (List.drop w (l.map Pr.row)) = (l.drop w).map Pr.row := by
      rw [List.take_of_length_le (by simp), List.map_drop]
    have hM3' : (M.set id3 (.cells 38 [p.row] 0)) id3 = some (.cells 38 [p.row] 0) := Mem.set_eq _ _ _
    generalize M.set id3 (.cells 38 [p.row] 0) = N at hMN hM3' ⊢
    refine vc_cut (fun fr N' => N' = N ∧ fr 0 = .l (.sl (l.map Pr.row)) ∧ fr 3 = .l (.ptr id3 0 0) ∧ fr 5 = .l (.int .i64 w) ∧ fr 6 = .l (.sl ((l.drop w).map Pr.row))) ?_ ?_
    · simp -implicitDefEqProofs (maxSteps := 1000000) (disch := omega) only [↓xsP, ↓vc_seq, xsQ, xsT, xsR, xsD, ↓reduceIte, reduceCtorEq, eq_self, ne_eq, imp_self, forall_const, Nat.reduceEqDiff, Nat.reduceAdd, Nat.reduceSub, Nat.reduceMul, Nat.reduceLT, Nat.reduceLeDiff, Nat.reduceBEq, Nat.reduceDiv, Nat.reduceMod, Int.reduceToNat, Int.reduceNeg, Int.reduceAdd, Int.reduceSub, Int.reduceMul, Int.reduceEq, Int.reduceNe, Int.reduceLT, Int.reduceLE, Int.reduceGT, Int.reduceGE, h0, h3, h5, hw0, hwle, hrows, hdr]
    · clear h0 h3 h5
      rintro fr N' ⟨rfl, h0, h3, h5, h6⟩
      have hwr2 : rest = match l.drop w with
        | [] => []
        | x :: r => if x.key = p.key then r else x :: r := hwr
      have hwd : (l.drop w).length ≤ 1000001 := by simp; omega
      clear hwr hdr
      generalize l.drop w = d at h6 hwr2 hwd
      refine vc_cut (fun fr N => N = N' ∧ fr 0 = .l (.sl (l.map Pr.row)) ∧ fr 3 = .l (.ptr id3 0 0) ∧ fr 5 = .l (.int .i64 w) ∧ fr 6 = .l (.sl (rest.map Pr.row))) ?_ ?_
      · by_cases hd : d = []
        · subst hd
          have hr0 : rest = [] := hwr2
          have hd0 : ((([] : List Pr).length : Int) > 0) = False := eq_false (by simp)
          simp -implicitDefEqProofs (maxSteps := 1000000) (disch := omega) only [↓xsP, ↓vc_seq, xsQ, xsT, xsR, xsD, ↓reduceIte, reduceCtorEq, eq_self, ne_eq, imp_self, forall_const, Nat.reduceEqDiff, Nat.reduceAdd, Nat.reduceSub, Nat.reduceMul, Nat.reduceLT, Nat.reduceLeDiff, Nat.reduceBEq, Nat.reduceDiv, Nat.reduceMod, Int.reduceToNat, Int.reduceNeg, Int.reduceAdd, Int.reduceSub, Int.reduceMul, Int.reduceEq, Int.reduceNe, Int.reduceLT, Int.reduceLE, Int.reduceGT, Int.reduceGE, h0, h3, h5, h6]
          refine xquiet (by kernel_rfl) (by kernel_rfl) (by kernel_rfl) ?_
          simp -implicitDefEqProofs (maxSteps := 1000000) (disch := omega) only [↓xsP, ↓vc_seq, xsQ, xsT, xsR, xsD, ↓reduceIte, reduceCtorEq, eq_self, ne_eq, imp_self, forall_const, Nat.reduceEqDiff, Nat.reduceAdd, Nat.reduceSub, Nat.reduceMul, Nat.reduceLT, Nat.reduceLeDiff, Nat.reduceBEq, Nat.reduceDiv, Nat.reduceMod, Int.reduceToNat, Int.reduceNeg, Int.reduceAdd, Int.reduceSub, Int.reduceMul, Int.reduceEq, Int.reduceNe, Int.reduceLT, Int.reduceLE, Int.reduceGT, Int.reduceGE, h0, h3, h5, h6, Int.cast_ofNat_Int]
          rw [hr0]
          rfl
        · have hpos : 0 < d.length := List.length_pos_iff.2 hd
          have hd1 : ((d.length : Int) > 0) = True := eq_true (by omega)
          have hwr3 : rest = if (d.getD 0 default).key = p.key then d.drop 1 else d := by
            rw [hwr2]
            cases d with
            | nil => exact absurd rfl hd
            | cons x r => rfl
          have hrows2 : (∀ r, r ∈ d.map Pr.row → r.length = 2) = True := eq_true (rows2 d)
          have hdr : List.take (d.length - 1) (List.drop 1 (d.map Pr.row)) = (d.drop 1).map Pr.row := by
            rw [List.take_of_length_le (by simp), List.map_drop]
          have h1le : (1 ≤ d.length) = True := eq_true (by omega)
          simp -implicitDefEqProofs (maxSteps := 1000000) (disch := omega) only [↓xsP, ↓vc_seq, xsQ, xsT, xsR, xsD, ↓reduceIte, reduceCtorEq, eq_self, ne_eq, imp_self, forall_const, Nat.reduceEqDiff, Nat.reduceAdd, Nat.reduceSub, Nat.reduceMul, Nat.reduceLT, Nat.reduceLeDiff, Nat.reduceBEq, Nat.reduceDiv, Nat.reduceMod, Int.reduceToNat, Int.reduceNeg, Int.reduceAdd, Int.reduceSub, Int.reduceMul, Int.reduceEq, Int.reduceNe, Int.reduceLT, Int.reduceLE, Int.reduceGT, Int.reduceGE, h0, h3, h5, h6]
          refine xquiet (by kernel_rfl) (by kernel_rfl) (by kernel_rfl) ?_
          simp -implicitDefEqProofs (maxSteps := 1000000) (disch := omega) only [↓xsP, ↓vc_seq, xsQ, xsT, xsR, xsD, ↓reduceIte, reduceCtorEq, eq_self, ne_eq, imp_self, forall_const, Nat.reduceEqDiff, Nat.reduceAdd, Nat.reduceSub, Nat.reduceMul, Nat.reduceLT, Nat.reduceLeDiff, Nat.reduceBEq, Nat.reduceDiv, Nat.reduceMod, Int.reduceToNat, Int.reduceNeg, Int.reduceAdd, Int.reduceSub, Int.reduceMul, Int.reduceEq, Int.reduceNe, Int.reduceLT, Int.reduceLE, Int.reduceGT, Int.reduceGE, h0, h3, h5, h6, hd1, hM3']
          refine condI_prop (fun hk => ?_) (fun hk => ?_)
          · rw [if_pos hk] at hwr3
            simp -implicitDefEqProofs (maxSteps := 1000000) (disch := omega) only [↓xsP, ↓vc_seq, xsQ, xsT, xsR, xsD, ↓reduceIte, reduceCtorEq, eq_self, ne_eq, imp_self, forall_const, Nat.reduceEqDiff, Nat.reduceAdd, Nat.reduceSub, Nat.reduceMul, Nat.reduceLT, Nat.reduceLeDiff, Nat.reduceBEq, Nat.reduceDiv, Nat.reduceMod, Int.reduceToNat, Int.reduceNeg, Int.reduceAdd, Int.reduceSub, Int.reduceMul, Int.reduceEq, Int.reduceNe, Int.reduceLT, Int.reduceLE, Int.reduceGT, Int.reduceGE, h0, h3, h5, h6, hrows2, hdr, h1le]
            rw [hwr3]
          · rw [if_neg hk] at hwr3
            simp -implicitDefEqProofs (maxSteps := 1000000) (disch := omega) only [↓xsP, ↓vc_seq, xsQ, xsT, xsR, xsD, ↓reduceIte, reduceCtorEq, eq_self, ne_eq, imp_self, forall_const, Nat.reduceEqDiff, Nat.reduceAdd, Nat.reduceSub, Nat.reduceMul, Nat.reduceLT, Nat.reduceLeDiff, Nat.reduceBEq, Nat.reduceDiv, Nat.reduceMod, Int.reduceToNat, Int.reduceNeg, Int.reduceAdd, Int.reduceSub, Int.reduceMul, Int.reduceEq, Int.reduceNe, Int.reduceLT, Int.reduceLE, Int.reduceGT, Int.reduceGE, h0, h3, h5, h6]
            rw [hwr3]
      · clear h0 h3 h5 h6
        rintro fr N ⟨rfl, h0, h3, h5, h6⟩
        refine vc_seq_of ?_
        simp -implicitDefEqProofs (maxSteps := 1000000) (disch := omega) only [↓xsP, xsQ, xsT, xsR, xsD, ↓reduceIte, reduceCtorEq, eq_self, ne_eq, imp_self, forall_const, Nat.reduceEqDiff, Nat.reduceAdd, Nat.reduceSub, Nat.reduceMul, Nat.reduceLT, Nat.reduceLeDiff, Nat.reduceBEq, Nat.reduceDiv, Nat.reduceMod, Int.reduceToNat, Int.reduceNeg, Int.reduceAdd, Int.reduceSub, Int.reduceMul, Int.reduceEq, Int.reduceNe, Int.reduceLT, Int.reduceLE, Int.reduceGT, Int.reduceGE, h0, h3, h5, h6]
        refine xwrite (fun n0 => [ ]) [] [4, 6] [[], [], [], [], [], [4], [], [], []] (by kernel_rfl) (by kernel_rfl) (by kernel_rfl) (by kernel_rfl) (fun n0 hn0 => ⟨rfl, ?_, ?_⟩)
        · exact TOk_nil _ _
        · have h3n : id3 < n0 := lt_of_bnd hn0 hM3'
          simp -implicitDefEqProofs (maxSteps := 1000000) (disch := omega) only [↓xsP, ↓vc_seq, xsQ, xsT, xsR, xsD, ↓reduceIte, reduceCtorEq, eq_self, ne_eq, imp_self, forall_const, Nat.reduceEqDiff, Nat.reduceAdd, Nat.reduceSub, Nat.reduceMul, Nat.reduceLT, Nat.reduceLeDiff, Nat.reduceBEq, Nat.reduceDiv, Nat.reduceMod, Int.reduceToNat, Int.reduceNeg, Int.reduceAdd, Int.reduceSub, Int.reduceMul, Int.reduceEq, Int.reduceNe, Int.reduceLT, Int.reduceLE, Int.reduceGT, Int.reduceGE, h0, h3, h5, h6, hM3', hw0, hwle, hrows, ← List.map_take]
          refine ⟨.inl (by decide), .inl (by decide), ?_⟩
          have hL : [l.take w, [p], rest].flatten = withL l p := by rw [hwe]; simp
          have htl : (l.take w).length ≤ l.length := by simp; omega
          refine ⟨.l (.sl ((withL l p).map Pr.row)), [], fun M' hle => ?_, ?_⟩
          · have hc := concat_spec [l.take w, [p], rest] [.sl ((l.take w).map Pr.row), .ms (n0 + 4) 0 1, .sl (rest.map Pr.row)] rfl (by simp) (by rw [hL, hwe]; simp; omega) (n0 + 6) M' (hle _ _ (Mem.set_eq _ _ _)) (fun i hi => by
              match i, hi with
              | 0, _ => exact .inl rfl
              | 1, _ => exact .inr ⟨n0 + 4, 0, rfl, hle _ _ (by rw [Mem.set_ne _ _ _ _ (by omega)]; exact Mem.set_eq _ _ _)⟩
              | 2, _ => exact .inl rfl)
            rw [hL] at hc
            refine XCalls.mono hc ?_
            rintro _ _ ⟨rfl, rfl⟩
            exact ⟨rfl, Mem.le_refl _⟩
          · simp -implicitDefEqProofs (maxSteps := 1000000) (disch := omega) only [↓xsP, ↓vc_seq, xsQ, xsT, xsR, xsD, ↓reduceIte, reduceCtorEq, eq_self, ne_eq, imp_self, forall_const, Nat.reduceEqDiff, Nat.reduceAdd, Nat.reduceSub, Nat.reduceMul, Nat.reduceLT, Nat.reduceLeDiff, Nat.reduceBEq, Nat.reduceDiv, Nat.reduceMod, Int.reduceToNat, Int.reduceNeg, Int.reduceAdd, Int.reduceSub, Int.reduceMul, Int.reduceEq, Int.reduceNe, Int.reduceLT, Int.reduceLE, Int.reduceGT, Int.reduceGE]
            refine fin_ok (fun i x hx => ?_) ⟨rfl, rfl⟩
            have h1 := hMN _ _ hx
            have h2 := lt_of_bnd hn0 h1
            rw [Mem.set_ne _ _ _ _ (by omega), Mem.set_ne _ _ _ _ (by omega)]
            exact h1
end Go.X

/- What leaf.one does: an operation on one key. -/

set_option linter.unusedVariables false
set_option linter.unusedSimpArgs false
set_option maxHeartbeats 20000000
set_option maxRecDepth 100000
namespace Go.X
open Go.Proofs.Try (prog)

def place (l : List Pr) (k : Int) : Int := pidx (fun p => decide (p.key = k)) l 0
theorem place_cases (l : List Pr) (k : Int) : (place l k = -1 ∧ ∀ p ∈ l, p.key ≠ k) ∨ ∃ i : Nat, i < l.length ∧ place l k = i ∧ (l.getD i default).key = k ∧ ∀ p ∈ l.take i, p.key ≠ k := by
  rcases pidx_cases (fun p => decide (p.key = k)) l 0 with ⟨h1, h2⟩ | ⟨i, hi, h1, h2, h3⟩
  · exact .inl ⟨h1, fun p hp => by simpa using h2 p hp⟩
  · exact .inr ⟨i, hi, by rw [place, h1]; omega, by simpa using h2, fun p hp => by simpa using h3 p hp⟩
def ansAt (l : List Pr) (i : Int) : Ans := if 0 ≤ i then ⟨0, true, l.getD i.toNat default, 0, []⟩ else ans0
def oneL (l : List Pr) (op : Opn) : List Pr :=
  if op.kind = 1 ∨ (op.kind = 2 ∧ place l op.key < 0) then withL l ⟨op.key, op.val⟩
  else if op.kind = 3 ∧ 0 ≤ place l op.key then l.take (place l op.key).toNat ++ l.drop ((place l op.key).toNat + 1)
  else l
/-- An answer's cells, its pairs being nil. -/
def arow (a : Ans) : List Lf := [.int .i64 a.err, .bool a.ok, .int .i64 a.pair.key, .int .i64 a.pair.val, .int .i64 a.n, .nils]
theorem arow_wk (a : Ans) (h : a.pairs = []) : (arow a).map wkL = a.row := by simp [arow, wkL, Ans.row, h]
theorem ansAt_pairs (l : List Pr) (i : Int) : (ansAt l i).pairs = [] := by unfold ansAt; split <;> rfl
theorem one_end {l l' : List Pr} {i : Int} {M N : Mem} (h : l' = l) (hle : M.le N) : XFin Go.Proofs.Try.prog (.tup [.l (.sl (l.map Pr.row)), .agg (arow (ansAt l i))]) N fun r M' => True := XFin.le hle trivial

theorem one_spec (l : List Pr) (hl : l.length ≤ 1000001) (op : Opn) (M : Mem) :
    XCalls Go.Proofs.Try.prog 64 [.l (.sl (l.map Pr.row)), .agg op.row] M fun r M' => r = .tup [.l (.sl ((oneL l op).map Pr.row)), .agg (ansAt l (place l op.key)).row] ∧ M' = M := by
  refine xcalls_intro (rs := [.tmp 4, .cell 5 69]) Go.Proofs.Try.func64 rfl (by kernel_rfl) rfl rfl (by kernel_rfl) (by simp) ?_
  refine vc_seq_of ?_
  simp -implicitDefEqProofs (maxSteps := 1000000) (disch := omega) only [↓xsP, xsQ, xsT, xsR, xsD, ↓reduceIte, reduceCtorEq, eq_self, ne_eq, imp_self, forall_const, Nat.reduceEqDiff, Nat.reduceAdd, Nat.reduceSub, Nat.reduceMul, Nat.reduceLT, Nat.reduceLeDiff, Nat.reduceBEq, Nat.reduceDiv, Nat.reduceMod, Int.reduceToNat, Int.reduceNeg, Int.reduceAdd, Int.reduceSub, Int.reduceMul, Int.reduceEq, Int.reduceNe, Int.reduceLT, Int.reduceLE, Int.reduceGT, Int.reduceGE]
  refine newI_intro fun id3 hid3 => ?_
  simp -implicitDefEqProofs (maxSteps := 1000000) (disch := omega) only [↓xsP, xsQ, xsT, xsR, xsD, ↓reduceIte, reduceCtorEq, eq_self, ne_eq, imp_self, forall_const, Nat.reduceEqDiff, Nat.reduceAdd, Nat.reduceSub, Nat.reduceMul, Nat.reduceLT, Nat.reduceLeDiff, Nat.reduceBEq, Nat.reduceDiv, Nat.reduceMod, Int.reduceToNat, Int.reduceNeg, Int.reduceAdd, Int.reduceSub, Int.reduceMul, Int.reduceEq, Int.reduceNe, Int.reduceLT, Int.reduceLE, Int.reduceGT, Int.reduceGE]
  refine newI_intro fun id5 hid5 => ?_
  obtain ⟨h35, hid5⟩ := bnd_new hid5
  simp -implicitDefEqProofs (maxSteps := 1000000) (disch := omega) only [↓xsP, xsQ, xsT, xsR, xsD, ↓reduceIte, reduceCtorEq, eq_self, ne_eq, imp_self, forall_const, Nat.reduceEqDiff, Nat.reduceAdd, Nat.reduceSub, Nat.reduceMul, Nat.reduceLT, Nat.reduceLeDiff, Nat.reduceBEq, Nat.reduceDiv, Nat.reduceMod, Int.reduceToNat, Int.reduceNeg, Int.reduceAdd, Int.reduceSub, Int.reduceMul, Int.reduceEq, Int.reduceNe, Int.reduceLT, Int.reduceLE, Int.reduceGT, Int.reduceGE]
  refine vc_seq_of ?_
  simp -implicitDefEqProofs (maxSteps := 1000000) (disch := omega) only [↓xsP, xsQ, xsT, xsR, xsD, ↓reduceIte, reduceCtorEq, eq_self, ne_eq, imp_self, forall_const, Nat.reduceEqDiff, Nat.reduceAdd, Nat.reduceSub, Nat.reduceMul, Nat.reduceLT, Nat.reduceLeDiff, Nat.reduceBEq, Nat.reduceDiv, Nat.reduceMod, Int.reduceToNat, Int.reduceNeg, Int.reduceAdd, Int.reduceSub, Int.reduceMul, Int.reduceEq, Int.reduceNe, Int.reduceLT, Int.reduceLE, Int.reduceGT, Int.reduceGE]
  refine newI_intro fun id6 hid6 => ?_
  obtain ⟨h56, hid6⟩ := bnd_new hid6
  obtain ⟨h36, hid6⟩ := bnd_new hid6
  simp -implicitDefEqProofs (maxSteps := 1000000) (disch := omega) only [↓xsP, xsQ, xsT, xsR, xsD, ↓reduceIte, reduceCtorEq, eq_self, ne_eq, imp_self, forall_const, Nat.reduceEqDiff, Nat.reduceAdd, Nat.reduceSub, Nat.reduceMul, Nat.reduceLT, Nat.reduceLeDiff, Nat.reduceBEq, Nat.reduceDiv, Nat.reduceMod, Int.reduceToNat, Int.reduceNeg, Int.reduceAdd, Int.reduceSub, Int.reduceMul, Int.reduceEq, Int.reduceNe, Int.reduceLT, Int.reduceLE, Int.reduceGT, Int.reduceGE]
  refine vc_seq_of ?_
  simp -implicitDefEqProofs (maxSteps := 1000000) (disch := omega) only [↓xsP, xsQ, xsT, xsR, xsD, ↓reduceIte, reduceCtorEq, eq_self, ne_eq, imp_self, forall_const, Nat.reduceEqDiff, Nat.reduceAdd, Nat.reduceSub, Nat.reduceMul, Nat.reduceLT, Nat.reduceLeDiff, Nat.reduceBEq, Nat.reduceDiv, Nat.reduceMod, Int.reduceToNat, Int.reduceNeg, Int.reduceAdd, Int.reduceSub, Int.reduceMul, Int.reduceEq, Int.reduceNe, Int.reduceLT, Int.reduceLE, Int.reduceGT, Int.reduceGE]
  refine call_of (find_spec l (by omega) op.key _) ?_
  simp -implicitDefEqProofs (maxSteps := 1000000) (disch := omega) only [↓xsP, xsQ, xsT, xsR, xsD, ↓reduceIte, reduceCtorEq, eq_self, ne_eq, imp_self, forall_const, Nat.reduceEqDiff, Nat.reduceAdd, Nat.reduceSub, Nat.reduceMul, Nat.reduceLT, Nat.reduceLeDiff, Nat.reduceBEq, Nat.reduceDiv, Nat.reduceMod, Int.reduceToNat, Int.reduceNeg, Int.reduceAdd, Int.reduceSub, Int.reduceMul, Int.reduceEq, Int.reduceNe, Int.reduceLT, Int.reduceLE, Int.reduceGT, Int.reduceGE]
  have hend : ∀ (l' : List Pr) (N : Mem), M.le N → (N id5 = some (.cells 69 [arow (ansAt l (place l op.key))] 0)) → l' = oneL l op →
      @finI prog (.tup [.l (.sl (l'.map Pr.row)), .agg (arow (ansAt l (place l op.key)))]) N ⟨fun r M' => r = .tup [.l (.sl ((oneL l op).map Pr.row)), .agg (ansAt l (place l op.key)).row] ∧ M' = M⟩ := fun l' N hle _ h => by
    subst h
    refine finI_of (XFin.wk (XFin.le hle ⟨?_, rfl⟩))
    simp only [wkT, List.map_cons, List.map_nil, wkA, wkL]
    rw [arow_wk _ (ansAt_pairs _ _)]
  have hpc := place_cases l op.key
  have hp1 : pidx (fun p => decide (p.key = op.key)) l 0 = place l op.key := rfl
  rw [hp1]
  refine vc_cut (fun fr N => fr 0 = .l (.sl (l.map Pr.row)) ∧ fr 3 = .l (.ptr id3 0 0) ∧ fr 5 = .l (.ptr id5 0 0) ∧ fr 6 = .l (.ptr id6 0 0) ∧ fr 7 = .l (.int .i64 (place l op.key)) ∧ M.le N ∧
    N id3 = some (.cells 34 [op.row] 0) ∧ N id5 = some (.cells 69 [arow ans0] 0) ∧ N id6 = some (.cells 69 [arow (ansAt l (place l op.key))] 0)) ?_ ?_
  · have hpl : place l op.key = -1 ∨ (0 ≤ place l op.key ∧ place l op.key < l.length) := by
      rcases hpc with ⟨h, _⟩ | ⟨i, hi, h, _⟩
      · exact .inl h
      · exact .inr (by omega)
    have hz : arow ans0 = [.int .i64 0, .bool false, .int .i64 0, .int .i64 0, .int .i64 0, .nils] := rfl
    generalize hN : (((M.set id3 _).set id5 _).set id6 _ : Mem) = N
    have hN3 : N id3 = some (.cells 34 [op.row] 0) := by rw [← hN, Mem.set_ne _ _ _ _ (by omega), Mem.set_ne _ _ _ _ (by omega)]; exact Mem.set_eq _ _ _
    have hN5 : N id5 = some (.cells 69 [arow ans0] 0) := by rw [← hN, Mem.set_ne _ _ _ _ (by omega)]; exact Mem.set_eq _ _ _
    have hN6 : N id6 = some (.cells 69 [arow ans0] 0) := by rw [← hN]; exact Mem.set_eq _ _ _
    have hMN : M.le N := by rw [← hN]; exact le_new (le_new (le_new (Mem.le_refl _) hid3) hid5) hid6
    have hN6' : N id6 = some (.cells 69 [[.int .i64 0, .bool false, .int .i64 0, .int .i64 0, .int .i64 0, .nils]] 0) := hN6
    clear hN
    simp -implicitDefEqProofs (maxSteps := 1000000) (disch := omega) only [↓xsP, ↓vc_seq, xsQ, xsT, xsR, xsD, ↓reduceIte, reduceCtorEq, eq_self, ne_eq, imp_self, forall_const, Nat.reduceEqDiff, Nat.reduceAdd, Nat.reduceSub, Nat.reduceMul, Nat.reduceLT, Nat.reduceLeDiff, Nat.reduceBEq, Nat.reduceDiv, Nat.reduceMod, Int.reduceToNat, Int.reduceNeg, Int.reduceAdd, Int.reduceSub, Int.reduceMul, Int.reduceEq, Int.reduceNe, Int.reduceLT, Int.reduceLE, Int.reduceGT, Int.reduceGE]
    refine condI_prop (fun hc => ?_) (fun hc => ?_)
    · have hp0 : 0 ≤ place l op.key := hc
      have hp2 : place l op.key < l.length := by omega
      simp -implicitDefEqProofs (maxSteps := 1000000) (disch := omega) only [↓xsP, ↓vc_seq, xsQ, xsT, xsR, xsD, ↓reduceIte, reduceCtorEq, eq_self, ne_eq, imp_self, forall_const, Nat.reduceEqDiff, Nat.reduceAdd, Nat.reduceSub, Nat.reduceMul, Nat.reduceLT, Nat.reduceLeDiff, Nat.reduceBEq, Nat.reduceDiv, Nat.reduceMod, Int.reduceToNat, Int.reduceNeg, Int.reduceAdd, Int.reduceSub, Int.reduceMul, Int.reduceEq, Int.reduceNe, Int.reduceLT, Int.reduceLE, Int.reduceGT, Int.reduceGE, hN6']
      refine ⟨Mem.le_set hMN (hid6 _ (Nat.le_refl _)), ?_, ?_, ?_⟩
      · exact hN3
      · exact hN5
      · rw [ansAt, if_pos hp0]; rfl
    · simp -implicitDefEqProofs (maxSteps := 1000000) (disch := omega) only [↓xsP, ↓vc_seq, xsQ, xsT, xsR, xsD, ↓reduceIte, reduceCtorEq, eq_self, ne_eq, imp_self, forall_const, Nat.reduceEqDiff, Nat.reduceAdd, Nat.reduceSub, Nat.reduceMul, Nat.reduceLT, Nat.reduceLeDiff, Nat.reduceBEq, Nat.reduceDiv, Nat.reduceMod, Int.reduceToNat, Int.reduceNeg, Int.reduceAdd, Int.reduceSub, Int.reduceMul, Int.reduceEq, Int.reduceNe, Int.reduceLT, Int.reduceLE, Int.reduceGT, Int.reduceGE]
      have hp0 : ¬ 0 ≤ place l op.key := hc
      refine ⟨hMN, hN3, hN5, ?_⟩
      rw [ansAt, if_neg hp0]; exact hN6
  · rintro fr N ⟨h0, h3, h5, h6, h7, hMN, hN3, hN5, hN6⟩
    have hpl : place l op.key = -1 ∨ (0 ≤ place l op.key ∧ place l op.key < l.length) := by
      rcases hpc with ⟨h, _⟩ | ⟨i, hi, h, _⟩
      · exact .inl h
      · exact .inr (by omega)
    have hN3' : N id3 = some (.cells 34 [[.int .i64 op.kind, .int .i64 op.key, .int .i64 op.to, .int .i64 op.val]] 0) := hN3
    refine vc_seq_of ?_
    simp -implicitDefEqProofs (maxSteps := 1000000) (disch := omega) only [↓xsP, xsQ, xsT, xsR, xsD, ↓reduceIte, reduceCtorEq, eq_self, ne_eq, imp_self, forall_const, Nat.reduceEqDiff, Nat.reduceAdd, Nat.reduceSub, Nat.reduceMul, Nat.reduceLT, Nat.reduceLeDiff, Nat.reduceBEq, Nat.reduceDiv, Nat.reduceMod, Int.reduceToNat, Int.reduceNeg, Int.reduceAdd, Int.reduceSub, Int.reduceMul, Int.reduceEq, Int.reduceNe, Int.reduceLT, Int.reduceLE, Int.reduceGT, Int.reduceGE, h0]
    refine vc_cut (fun fr N' => N' = N ∧ fr 0 = .l (.sl (l.map Pr.row)) ∧ fr 3 = .l (.ptr id3 0 0) ∧ fr 5 = .l (.ptr id5 0 0) ∧ fr 6 = .l (.ptr id6 0 0) ∧ fr 7 = .l (.int .i64 (place l op.key)) ∧ fr 19 = .l (.bool (decide (op.kind = 1 ∨ (op.kind = 2 ∧ place l op.key < 0))))) ?_ ?_
    · by_cases k1 : op.kind = 1
      · have q1 : (op.kind = 1) = True := eq_true k1
        simp -implicitDefEqProofs (maxSteps := 1000000) (disch := omega) only [↓xsP, ↓vc_seq, xsQ, xsT, xsR, xsD, ↓reduceIte, reduceCtorEq, eq_self, ne_eq, imp_self, forall_const, Nat.reduceEqDiff, Nat.reduceAdd, Nat.reduceSub, Nat.reduceMul, Nat.reduceLT, Nat.reduceLeDiff, Nat.reduceBEq, Nat.reduceDiv, Nat.reduceMod, Int.reduceToNat, Int.reduceNeg, Int.reduceAdd, Int.reduceSub, Int.reduceMul, Int.reduceEq, Int.reduceNe, Int.reduceLT, Int.reduceLE, Int.reduceGT, Int.reduceGE, h0, h3, h5, h6, h7, hN3', q1]
      · have q1 : (op.kind = 1) = False := eq_false k1
        by_cases k2 : op.kind = 2
        · have q2 : (op.kind = 2) = True := eq_true k2
          simp -implicitDefEqProofs (maxSteps := 1000000) (disch := omega) only [↓xsP, ↓vc_seq, xsQ, xsT, xsR, xsD, ↓reduceIte, reduceCtorEq, eq_self, ne_eq, imp_self, forall_const, Nat.reduceEqDiff, Nat.reduceAdd, Nat.reduceSub, Nat.reduceMul, Nat.reduceLT, Nat.reduceLeDiff, Nat.reduceBEq, Nat.reduceDiv, Nat.reduceMod, Int.reduceToNat, Int.reduceNeg, Int.reduceAdd, Int.reduceSub, Int.reduceMul, Int.reduceEq, Int.reduceNe, Int.reduceLT, Int.reduceLE, Int.reduceGT, Int.reduceGE, h0, h3, h5, h6, h7, hN3', q1, q2, false_or]
        · have q2 : (op.kind = 2) = False := eq_false k2
          simp -implicitDefEqProofs (maxSteps := 1000000) (disch := omega) only [↓xsP, ↓vc_seq, xsQ, xsT, xsR, xsD, ↓reduceIte, reduceCtorEq, eq_self, ne_eq, imp_self, forall_const, Nat.reduceEqDiff, Nat.reduceAdd, Nat.reduceSub, Nat.reduceMul, Nat.reduceLT, Nat.reduceLeDiff, Nat.reduceBEq, Nat.reduceDiv, Nat.reduceMod, Int.reduceToNat, Int.reduceNeg, Int.reduceAdd, Int.reduceSub, Int.reduceMul, Int.reduceEq, Int.reduceNe, Int.reduceLT, Int.reduceLE, Int.reduceGT, Int.reduceGE, h0, h3, h5, h6, h7, hN3', q1, q2, false_or]
    · clear h0 h3 h5 h6 h7
      rintro fr N' ⟨rfl, h0, h3, h5, h6, h7, h19⟩
      simp -implicitDefEqProofs (maxSteps := 1000000) (disch := omega) only [↓xsP, xsQ, xsT, xsR, xsD, ↓reduceIte, reduceCtorEq, eq_self, ne_eq, imp_self, forall_const, Nat.reduceEqDiff, Nat.reduceAdd, Nat.reduceSub, Nat.reduceMul, Nat.reduceLT, Nat.reduceLeDiff, Nat.reduceBEq, Nat.reduceDiv, Nat.reduceMod, Int.reduceToNat, Int.reduceNeg, Int.reduceAdd, Int.reduceSub, Int.reduceMul, Int.reduceEq, Int.reduceNe, Int.reduceLT, Int.reduceLE, Int.reduceGT, Int.reduceGE, h19]
      refine condI_prop (fun hc => ?_) (fun hc => ?_)
      · refine vc_seq_of ?_
        simp -implicitDefEqProofs (maxSteps := 1000000) (disch := omega) only [↓xsP, xsQ, xsT, xsR, xsD, ↓reduceIte, reduceCtorEq, eq_self, ne_eq, imp_self, forall_const, Nat.reduceEqDiff, Nat.reduceAdd, Nat.reduceSub, Nat.reduceMul, Nat.reduceLT, Nat.reduceLeDiff, Nat.reduceBEq, Nat.reduceDiv, Nat.reduceMod, Int.reduceToNat, Int.reduceNeg, Int.reduceAdd, Int.reduceSub, Int.reduceMul, Int.reduceEq, Int.reduceNe, Int.reduceLT, Int.reduceLE, Int.reduceGT, Int.reduceGE, h0, h3, h5, h6, h7]
        refine xwrite (fun n0 => [ (9, id5)]) [9] [] [[], [], [], [], [], [], [], [], [], []] (by kernel_rfl) (by kernel_rfl) (by kernel_rfl) (by kernel_rfl) (fun n0 hn0 => ⟨rfl, ?_, ?_⟩)
        · exact TOk_cons (.inl (lt_of_bnd hn0 hN5)) (TOk_nil _ _)
        · have h5n := lt_of_bnd hn0 hN5
          have h3n := lt_of_bnd hn0 hN3
          have h6n := lt_of_bnd hn0 hN6
          simp -implicitDefEqProofs (maxSteps := 1000000) (disch := omega) only [↓xsP, ↓vc_seq, xsQ, xsT, xsR, xsD, ↓reduceIte, reduceCtorEq, eq_self, ne_eq, imp_self, forall_const, Nat.reduceEqDiff, Nat.reduceAdd, Nat.reduceSub, Nat.reduceMul, Nat.reduceLT, Nat.reduceLeDiff, Nat.reduceBEq, Nat.reduceDiv, Nat.reduceMod, Int.reduceToNat, Int.reduceNeg, Int.reduceAdd, Int.reduceSub, Int.reduceMul, Int.reduceEq, Int.reduceNe, Int.reduceLT, Int.reduceLE, Int.reduceGT, Int.reduceGE, h0, h3, h5, h6, h7, hN3']
          refine ⟨.l (.sl ((withL l ⟨op.key, op.val⟩).map Pr.row)), [], fun M' hle => XCalls.mono (with_spec l hl ⟨op.key, op.val⟩ M') (by rintro _ _ ⟨rfl, rfl⟩; exact ⟨rfl, Mem.le_refl _⟩), ?_⟩
          simp -implicitDefEqProofs (maxSteps := 1000000) (disch := omega) only [↓xsP, ↓vc_seq, xsQ, xsT, xsR, xsD, ↓reduceIte, reduceCtorEq, eq_self, ne_eq, imp_self, forall_const, Nat.reduceEqDiff, Nat.reduceAdd, Nat.reduceSub, Nat.reduceMul, Nat.reduceLT, Nat.reduceLeDiff, Nat.reduceBEq, Nat.reduceDiv, Nat.reduceMod, Int.reduceToNat, Int.reduceNeg, Int.reduceAdd, Int.reduceSub, Int.reduceMul, Int.reduceEq, Int.reduceNe, Int.reduceLT, Int.reduceLE, Int.reduceGT, Int.reduceGE, h0, h3, h5, h6, h7, hN5, hN6, arow]
          refine hend _ _ (Mem.le_set hMN (hid5 _ (Nat.le_refl _))) (Mem.set_eq _ _ _) ?_
          rw [oneL, if_pos hc]
      · refine vc_cut (fun fr N => N = N' ∧ fr 0 = .l (.sl (l.map Pr.row)) ∧ fr 3 = .l (.ptr id3 0 0) ∧ fr 5 = .l (.ptr id5 0 0) ∧ fr 6 = .l (.ptr id6 0 0) ∧ fr 7 = .l (.int .i64 (place l op.key)) ∧ fr 40 = .l (.bool (decide (op.kind = 3 ∧ 0 ≤ place l op.key)))) ?_ ?_
        · by_cases k3 : op.kind = 3
          · have q3 : (op.kind = 3) = True := eq_true k3
            simp -implicitDefEqProofs (maxSteps := 1000000) (disch := omega) only [↓xsP, ↓vc_seq, xsQ, xsT, xsR, xsD, ↓reduceIte, reduceCtorEq, eq_self, ne_eq, imp_self, forall_const, Nat.reduceEqDiff, Nat.reduceAdd, Nat.reduceSub, Nat.reduceMul, Nat.reduceLT, Nat.reduceLeDiff, Nat.reduceBEq, Nat.reduceDiv, Nat.reduceMod, Int.reduceToNat, Int.reduceNeg, Int.reduceAdd, Int.reduceSub, Int.reduceMul, Int.reduceEq, Int.reduceNe, Int.reduceLT, Int.reduceLE, Int.reduceGT, Int.reduceGE, h0, h3, h5, h6, h7, hN3', q3]
          · have q3 : (op.kind = 3) = False := eq_false k3
            simp -implicitDefEqProofs (maxSteps := 1000000) (disch := omega) only [↓xsP, ↓vc_seq, xsQ, xsT, xsR, xsD, ↓reduceIte, reduceCtorEq, eq_self, ne_eq, imp_self, forall_const, Nat.reduceEqDiff, Nat.reduceAdd, Nat.reduceSub, Nat.reduceMul, Nat.reduceLT, Nat.reduceLeDiff, Nat.reduceBEq, Nat.reduceDiv, Nat.reduceMod, Int.reduceToNat, Int.reduceNeg, Int.reduceAdd, Int.reduceSub, Int.reduceMul, Int.reduceEq, Int.reduceNe, Int.reduceLT, Int.reduceLE, Int.reduceGT, Int.reduceGE, h0, h3, h5, h6, h7, hN3', q3]
        · clear h0 h3 h5 h6 h7 h19
          rintro fr N ⟨rfl, h0, h3, h5, h6, h7, h40⟩
          simp -implicitDefEqProofs (maxSteps := 1000000) (disch := omega) only [↓xsP, xsQ, xsT, xsR, xsD, ↓reduceIte, reduceCtorEq, eq_self, ne_eq, imp_self, forall_const, Nat.reduceEqDiff, Nat.reduceAdd, Nat.reduceSub, Nat.reduceMul, Nat.reduceLT, Nat.reduceLeDiff, Nat.reduceBEq, Nat.reduceDiv, Nat.reduceMod, Int.reduceToNat, Int.reduceNeg, Int.reduceAdd, Int.reduceSub, Int.reduceMul, Int.reduceEq, Int.reduceNe, Int.reduceLT, Int.reduceLE, Int.reduceGT, Int.reduceGE, h40]
          refine condI_prop (fun hc2 => ?_) (fun hc2 => ?_)
          · refine vc_seq_of ?_
            simp -implicitDefEqProofs (maxSteps := 1000000) (disch := omega) only [↓xsP, xsQ, xsT, xsR, xsD, ↓reduceIte, reduceCtorEq, eq_self, ne_eq, imp_self, forall_const, Nat.reduceEqDiff, Nat.reduceAdd, Nat.reduceSub, Nat.reduceMul, Nat.reduceLT, Nat.reduceLeDiff, Nat.reduceBEq, Nat.reduceDiv, Nat.reduceMod, Int.reduceToNat, Int.reduceNeg, Int.reduceAdd, Int.reduceSub, Int.reduceMul, Int.reduceEq, Int.reduceNe, Int.reduceLT, Int.reduceLE, Int.reduceGT, Int.reduceGE, h0, h3, h5, h6, h7]
            refine xwrite (fun n0 => [ (11, id5)]) [11] [7] [[], [], [], [], [], [], [], [], [], [7], [], []] (by kernel_rfl) (by kernel_rfl) (by kernel_rfl) (by kernel_rfl) (fun n0 hn0 => ⟨rfl, ?_, ?_⟩)
            · exact TOk_cons (.inl (lt_of_bnd hn0 hN5)) (TOk_nil _ _)
            · have h5n := lt_of_bnd hn0 hN5
              have h3n := lt_of_bnd hn0 hN3
              have h6n := lt_of_bnd hn0 hN6
              obtain ⟨i, hi⟩ := Int.eq_ofNat_of_zero_le hc2.2
              have hin : i < l.length := by omega
              have q0 : (0 ≤ (i : Int)) = True := eq_true (by omega)
              have q1 : (0 ≤ (i : Int) + 1) = True := eq_true (by omega)
              have q2 : (i ≤ l.length) = True := eq_true (by omega)
              have q3 : (i + 1 ≤ l.length) = True := eq_true (by omega)
              have hrows : (∀ r, r ∈ l.map Pr.row → r.length = 2) = True := eq_true (rows2 l)
              have hdr : List.take (l.length - (i + 1)) (List.drop (i + 1) (l.map Pr.row)) = (l.drop (i + 1)).map Pr.row := by
                rw [List.take_of_length_le (by simp), List.map_drop]
              simp -implicitDefEqProofs (maxSteps := 1000000) (disch := omega) only [↓xsP, ↓vc_seq, xsQ, xsT, xsR, xsD, ↓reduceIte, reduceCtorEq, eq_self, ne_eq, imp_self, forall_const, Nat.reduceEqDiff, Nat.reduceAdd, Nat.reduceSub, Nat.reduceMul, Nat.reduceLT, Nat.reduceLeDiff, Nat.reduceBEq, Nat.reduceDiv, Nat.reduceMod, Int.reduceToNat, Int.reduceNeg, Int.reduceAdd, Int.reduceSub, Int.reduceMul, Int.reduceEq, Int.reduceNe, Int.reduceLT, Int.reduceLE, Int.reduceGT, Int.reduceGE, h0, h3, h5, h6, h7, hN3', hi, q0, q1, q2, q3, hrows, hdr, ← List.map_take]
              refine ⟨.inl (by decide), ?_⟩
              have hL : [l.take i, l.drop (i + 1)].flatten = oneL l op := by
                rw [oneL, if_neg hc, if_pos hc2, hi]
                simp
              refine ⟨.l (.sl ((oneL l op).map Pr.row)), [], fun M' hle => ?_, ?_⟩
              · have hcc := concat_spec [l.take i, l.drop (i + 1)] [.sl ((l.take i).map Pr.row), .sl ((l.drop (i + 1)).map Pr.row)] rfl (by simp) (by simp; omega) (n0 + 7) M' (hle _ _ (Mem.set_eq _ _ _)) (fun j hj => by
                  match j, hj with
                  | 0, _ => exact .inl rfl
                  | 1, _ => exact .inl rfl)
                rw [hL] at hcc
                refine XCalls.mono hcc ?_
                rintro _ _ ⟨rfl, rfl⟩
                exact ⟨rfl, Mem.le_refl _⟩
              · simp -implicitDefEqProofs (maxSteps := 1000000) (disch := omega) only [↓xsP, ↓vc_seq, xsQ, xsT, xsR, xsD, ↓reduceIte, reduceCtorEq, eq_self, ne_eq, imp_self, forall_const, Nat.reduceEqDiff, Nat.reduceAdd, Nat.reduceSub, Nat.reduceMul, Nat.reduceLT, Nat.reduceLeDiff, Nat.reduceBEq, Nat.reduceDiv, Nat.reduceMod, Int.reduceToNat, Int.reduceNeg, Int.reduceAdd, Int.reduceSub, Int.reduceMul, Int.reduceEq, Int.reduceNe, Int.reduceLT, Int.reduceLE, Int.reduceGT, Int.reduceGE, h0, h3, h5, h6, h7, hN5, hN6, arow]
                refine hend _ _ ?_ (Mem.set_eq _ _ _) rfl
                refine Mem.le_set (fun j b hj => ?_) (hid5 _ (Nat.le_refl _))
                have h1 := hMN _ _ hj
                rw [Mem.set_ne _ _ _ _ (by have := lt_of_bnd hn0 h1; omega)]
                exact h1
          · simp -implicitDefEqProofs (maxSteps := 1000000) (disch := omega) only [↓xsP, xsQ, xsT, xsR, xsD, ↓reduceIte, reduceCtorEq, eq_self, ne_eq, imp_self, forall_const, Nat.reduceEqDiff, Nat.reduceAdd, Nat.reduceSub, Nat.reduceMul, Nat.reduceLT, Nat.reduceLeDiff, Nat.reduceBEq, Nat.reduceDiv, Nat.reduceMod, Int.reduceToNat, Int.reduceNeg, Int.reduceAdd, Int.reduceSub, Int.reduceMul, Int.reduceEq, Int.reduceNe, Int.reduceLT, Int.reduceLE, Int.reduceGT, Int.reduceGE, h0, h3, h5, h6, h7]
            refine vc_seq_of ?_
            simp -implicitDefEqProofs (maxSteps := 1000000) (disch := omega) only [↓xsP, xsQ, xsT, xsR, xsD, ↓reduceIte, reduceCtorEq, eq_self, ne_eq, imp_self, forall_const, Nat.reduceEqDiff, Nat.reduceAdd, Nat.reduceSub, Nat.reduceMul, Nat.reduceLT, Nat.reduceLeDiff, Nat.reduceBEq, Nat.reduceDiv, Nat.reduceMod, Int.reduceToNat, Int.reduceNeg, Int.reduceAdd, Int.reduceSub, Int.reduceMul, Int.reduceEq, Int.reduceNe, Int.reduceLT, Int.reduceLE, Int.reduceGT, Int.reduceGE, h0, h3, h5, h6, h7]
            refine xwrite (fun n0 => [ (4, id5)]) [4] [] [[], [], [], [], []] (by kernel_rfl) (by kernel_rfl) (by kernel_rfl) (by kernel_rfl) (fun n0 hn0 => ⟨rfl, ?_, ?_⟩)
            · exact TOk_cons (.inl (lt_of_bnd hn0 hN5)) (TOk_nil _ _)
            · have h5n := lt_of_bnd hn0 hN5
              have h3n := lt_of_bnd hn0 hN3
              have h6n := lt_of_bnd hn0 hN6
              simp -implicitDefEqProofs (maxSteps := 1000000) (disch := omega) only [↓xsP, ↓vc_seq, xsQ, xsT, xsR, xsD, ↓reduceIte, reduceCtorEq, eq_self, ne_eq, imp_self, forall_const, Nat.reduceEqDiff, Nat.reduceAdd, Nat.reduceSub, Nat.reduceMul, Nat.reduceLT, Nat.reduceLeDiff, Nat.reduceBEq, Nat.reduceDiv, Nat.reduceMod, Int.reduceToNat, Int.reduceNeg, Int.reduceAdd, Int.reduceSub, Int.reduceMul, Int.reduceEq, Int.reduceNe, Int.reduceLT, Int.reduceLE, Int.reduceGT, Int.reduceGE, h0, h3, h5, h6, h7, hN3']
              refine ⟨.l (.sl (l.map Pr.row)), [], fun M' hle => XCalls.mono (clone_spec l hl M') (by rintro _ _ ⟨rfl, rfl⟩; exact ⟨rfl, Mem.le_refl _⟩), ?_⟩
              simp -implicitDefEqProofs (maxSteps := 1000000) (disch := omega) only [↓xsP, ↓vc_seq, xsQ, xsT, xsR, xsD, ↓reduceIte, reduceCtorEq, eq_self, ne_eq, imp_self, forall_const, Nat.reduceEqDiff, Nat.reduceAdd, Nat.reduceSub, Nat.reduceMul, Nat.reduceLT, Nat.reduceLeDiff, Nat.reduceBEq, Nat.reduceDiv, Nat.reduceMod, Int.reduceToNat, Int.reduceNeg, Int.reduceAdd, Int.reduceSub, Int.reduceMul, Int.reduceEq, Int.reduceNe, Int.reduceLT, Int.reduceLE, Int.reduceGT, Int.reduceGE, h0, h3, h5, h6, h7, hN5, hN6, arow]
              refine hend _ _ (Mem.le_set hMN (hid5 _ (Nat.le_refl _))) (Mem.set_eq _ _ _) ?_
              rw [oneL, if_neg hc, if_neg hc2]
end Go.X

/- What leaf.Do does. -/

set_option linter.unusedVariables false
set_option linter.unusedSimpArgs false
set_option maxHeartbeats 20000000
set_option maxRecDepth 100000
namespace Go.X
open Go.Proofs.Try (prog)

noncomputable def okOp (l : List Pr) (op : Opn) : Bool := bof (Rises l) && mayOpB op
def inRange (l : List Pr) (op : Opn) : List Pr := stays (outside op.key op.to) l
noncomputable def doL (l : List Pr) (op : Opn) : List Pr := if okOp l op = false then l else if op.kind = 1 ∨ op.kind = 2 ∨ op.kind = 3 then oneL l op else l
noncomputable def doA (l : List Pr) (op : Opn) : Ans :=
  if okOp l op = false then ⟨1, false, ⟨0, 0⟩, 0, []⟩
  else if op.kind = 5 then ⟨0, false, ⟨0, 0⟩, (inRange l op).length, inRange l op⟩
  else if op.kind = 6 then ⟨0, false, ⟨0, 0⟩, (inRange l op).length, []⟩
  else if op.kind = 7 then (if l = [] then ans0 else ⟨0, true, l.getD 0 default, 0, []⟩)
  else if op.kind = 8 then (if l = [] then ans0 else ⟨0, true, l.getD (l.length - 1) default, 0, []⟩)
  else ansAt l (place l op.key)

theorem oneL_get {l : List Pr} {op : Opn} (h1 : op.kind ≠ 1) (h2 : op.kind ≠ 2) (h3 : op.kind ≠ 3) : oneL l op = l := by
  rw [oneL, if_neg (by simp [h1, h2]), if_neg (by simp [h3])]
theorem stays_len (q : Pr → Bool) (l : List Pr) : (stays q l).length ≤ l.length := List.length_filter_le _ _

def DoMid (l : List Pr) (op : Opn) (M : Mem) (id5 id6 : Nat) (N : Mem) : Prop :=
  doL l op = l ∧ M.le N ∧ N id5 = some (.cells 69 [arow ans0] 0) ∧ ∃ a b c d e f, N id6 = some (.cells 69 [[a, b, c, d, e, f]] 0) ∧ [a, b, c, d, e, f].map wkL = (doA l op).row
theorem doMid_set {l : List Pr} {op : Opn} {M N : Mem} {id5 id6 : Nat} {a b c d e f : Lf} (h : doL l op = l) (hle : M.le N) (h6 : M id6 = none) (hne : id6 ≠ id5) (h5 : N id5 = some (.cells 69 [arow ans0] 0)) (hw : [a, b, c, d, e, f].map wkL = (doA l op).row) :
    DoMid l op M id5 id6 (N.set id6 (.cells 69 [[a, b, c, d, e, f]] 0)) :=
  ⟨h, Mem.le_set hle h6, by rw [Mem.set_ne _ _ _ _ hne]; exact h5, a, b, c, d, e, f, Mem.set_eq _ _ _, hw⟩

theorem do_spec (l : List Pr) (hl : l.length ≤ 1000001) (op : Opn) (M : Mem) :
    XCalls Go.Proofs.Try.prog 62 [.l (.sl (l.map Pr.row)), .agg op.row] M fun r M' => r = .tup [.l (.sl ((doL l op).map Pr.row)), .agg (doA l op).row] ∧ M' = M := by
  refine xcalls_intro (rs := [.tmp 4, .cell 5 69]) Go.Proofs.Try.func62 rfl (by kernel_rfl) rfl rfl (by kernel_rfl) (by simp) ?_
  refine vc_seq_of ?_
  simp -implicitDefEqProofs (maxSteps := 1000000) (disch := omega) only [↓xsP, xsQ, xsT, xsR, xsD, ↓reduceIte, reduceCtorEq, eq_self, ne_eq, imp_self, forall_const, Nat.reduceEqDiff, Nat.reduceAdd, Nat.reduceSub, Nat.reduceMul, Nat.reduceLT, Nat.reduceLeDiff, Nat.reduceBEq, Nat.reduceDiv, Nat.reduceMod, Int.reduceToNat, Int.reduceNeg, Int.reduceAdd, Int.reduceSub, Int.reduceMul, Int.reduceEq, Int.reduceNe, Int.reduceLT, Int.reduceLE, Int.reduceGT, Int.reduceGE]
  refine newI_intro fun id3 hid3 => ?_
  simp -implicitDefEqProofs (maxSteps := 1000000) (disch := omega) only [↓xsP, xsQ, xsT, xsR, xsD, ↓reduceIte, reduceCtorEq, eq_self, ne_eq, imp_self, forall_const, Nat.reduceEqDiff, Nat.reduceAdd, Nat.reduceSub, Nat.reduceMul, Nat.reduceLT, Nat.reduceLeDiff, Nat.reduceBEq, Nat.reduceDiv, Nat.reduceMod, Int.reduceToNat, Int.reduceNeg, Int.reduceAdd, Int.reduceSub, Int.reduceMul, Int.reduceEq, Int.reduceNe, Int.reduceLT, Int.reduceLE, Int.reduceGT, Int.reduceGE]
  refine newI_intro fun id5 hid5 => ?_
  obtain ⟨h35, hid5⟩ := bnd_new hid5
  simp -implicitDefEqProofs (maxSteps := 1000000) (disch := omega) only [↓xsP, xsQ, xsT, xsR, xsD, ↓reduceIte, reduceCtorEq, eq_self, ne_eq, imp_self, forall_const, Nat.reduceEqDiff, Nat.reduceAdd, Nat.reduceSub, Nat.reduceMul, Nat.reduceLT, Nat.reduceLeDiff, Nat.reduceBEq, Nat.reduceDiv, Nat.reduceMod, Int.reduceToNat, Int.reduceNeg, Int.reduceAdd, Int.reduceSub, Int.reduceMul, Int.reduceEq, Int.reduceNe, Int.reduceLT, Int.reduceLE, Int.reduceGT, Int.reduceGE]
  have hend : ∀ (l' : List Pr) (a b c d e f : Lf) (N : Mem), M.le N → l' = doL l op → [a, b, c, d, e, f].map wkL = (doA l op).row →
      @finI prog (.tup [.l (.sl (l'.map Pr.row)), .agg [a, b, c, d, e, f]]) N ⟨fun r M' => r = .tup [.l (.sl ((doL l op).map Pr.row)), .agg (doA l op).row] ∧ M' = M⟩ := fun l' a b c d e f N hle h hw => by
    subst h
    refine finI_of (XFin.wk (XFin.le hle ⟨?_, rfl⟩))
    simp only [wkT, List.map_cons, List.map_nil, wkA]
    rw [← hw]
    rfl
  generalize hN : ((M.set id3 _).set id5 _ : Mem) = N
  have hN3 : N id3 = some (.cells 34 [[.int .i64 op.kind, .int .i64 op.key, .int .i64 op.to, .int .i64 op.val]] 0) := by rw [← hN, Mem.set_ne _ _ _ _ (by omega)]; exact Mem.set_eq _ _ _
  have hN5 : N id5 = some (.cells 69 [arow ans0] 0) := by rw [← hN]; exact Mem.set_eq _ _ _
  have hMN : M.le N := by rw [← hN]; exact le_new (le_new (Mem.le_refl _) hid3) hid5
  clear hN
  refine vc_cut (fun fr N' => N' = N ∧ okOp l op = true ∧ fr 0 = .l (.sl (l.map Pr.row)) ∧ fr 3 = .l (.ptr id3 0 0) ∧ fr 5 = .l (.ptr id5 0 0)) ?_ ?_
  · simp -implicitDefEqProofs (maxSteps := 1000000) (disch := omega) only [↓xsP, ↓vc_seq, xsQ, xsT, xsR, xsD, ↓reduceIte, reduceCtorEq, eq_self, ne_eq, imp_self, forall_const, Nat.reduceEqDiff, Nat.reduceAdd, Nat.reduceSub, Nat.reduceMul, Nat.reduceLT, Nat.reduceLeDiff, Nat.reduceBEq, Nat.reduceDiv, Nat.reduceMod, Int.reduceToNat, Int.reduceNeg, Int.reduceAdd, Int.reduceSub, Int.reduceMul, Int.reduceEq, Int.reduceNe, Int.reduceLT, Int.reduceLE, Int.reduceGT, Int.reduceGE]
    refine call_of (may_spec l (by omega) N) ?_
    cases hr : bof (Rises l) with
    | false =>
      have hk : okOp l op = false := by rw [okOp, hr]; rfl
      simp -implicitDefEqProofs (maxSteps := 1000000) (disch := omega) only [↓xsP, ↓vc_seq, xsQ, xsT, xsR, xsD, ↓reduceIte, reduceCtorEq, eq_self, ne_eq, imp_self, forall_const, Nat.reduceEqDiff, Nat.reduceAdd, Nat.reduceSub, Nat.reduceMul, Nat.reduceLT, Nat.reduceLeDiff, Nat.reduceBEq, Nat.reduceDiv, Nat.reduceMod, Int.reduceToNat, Int.reduceNeg, Int.reduceAdd, Int.reduceSub, Int.reduceMul, Int.reduceEq, Int.reduceNe, Int.reduceLT, Int.reduceLE, Int.reduceGT, Int.reduceGE]
      refine call_of (clone_spec l hl N) ?_
      simp -implicitDefEqProofs (maxSteps := 1000000) (disch := omega) only [↓xsP, ↓vc_seq, xsQ, xsT, xsR, xsD, ↓reduceIte, reduceCtorEq, eq_self, ne_eq, imp_self, forall_const, Nat.reduceEqDiff, Nat.reduceAdd, Nat.reduceSub, Nat.reduceMul, Nat.reduceLT, Nat.reduceLeDiff, Nat.reduceBEq, Nat.reduceDiv, Nat.reduceMod, Int.reduceToNat, Int.reduceNeg, Int.reduceAdd, Int.reduceSub, Int.reduceMul, Int.reduceEq, Int.reduceNe, Int.reduceLT, Int.reduceLE, Int.reduceGT, Int.reduceGE, hN5, arow, ans0]
      refine hend _ _ _ _ _ _ _ _ (Mem.le_set hMN (hid5 _ (Nat.le_refl _))) (by rw [doL, if_pos hk]) (by rw [doA, if_pos hk]; rfl)
    | true =>
      simp -implicitDefEqProofs (maxSteps := 1000000) (disch := omega) only [↓xsP, ↓vc_seq, xsQ, xsT, xsR, xsD, ↓reduceIte, reduceCtorEq, eq_self, ne_eq, imp_self, forall_const, Nat.reduceEqDiff, Nat.reduceAdd, Nat.reduceSub, Nat.reduceMul, Nat.reduceLT, Nat.reduceLeDiff, Nat.reduceBEq, Nat.reduceDiv, Nat.reduceMod, Int.reduceToNat, Int.reduceNeg, Int.reduceAdd, Int.reduceSub, Int.reduceMul, Int.reduceEq, Int.reduceNe, Int.reduceLT, Int.reduceLE, Int.reduceGT, Int.reduceGE, hN3]
      refine call_of (mayOp_spec op N) ?_
      cases hm : mayOpB op with
      | false =>
        have hk : okOp l op = false := by rw [okOp, hr, hm]; rfl
        simp -implicitDefEqProofs (maxSteps := 1000000) (disch := omega) only [↓xsP, ↓vc_seq, xsQ, xsT, xsR, xsD, ↓reduceIte, reduceCtorEq, eq_self, ne_eq, imp_self, forall_const, Nat.reduceEqDiff, Nat.reduceAdd, Nat.reduceSub, Nat.reduceMul, Nat.reduceLT, Nat.reduceLeDiff, Nat.reduceBEq, Nat.reduceDiv, Nat.reduceMod, Int.reduceToNat, Int.reduceNeg, Int.reduceAdd, Int.reduceSub, Int.reduceMul, Int.reduceEq, Int.reduceNe, Int.reduceLT, Int.reduceLE, Int.reduceGT, Int.reduceGE]
        refine call_of (clone_spec l hl N) ?_
        simp -implicitDefEqProofs (maxSteps := 1000000) (disch := omega) only [↓xsP, ↓vc_seq, xsQ, xsT, xsR, xsD, ↓reduceIte, reduceCtorEq, eq_self, ne_eq, imp_self, forall_const, Nat.reduceEqDiff, Nat.reduceAdd, Nat.reduceSub, Nat.reduceMul, Nat.reduceLT, Nat.reduceLeDiff, Nat.reduceBEq, Nat.reduceDiv, Nat.reduceMod, Int.reduceToNat, Int.reduceNeg, Int.reduceAdd, Int.reduceSub, Int.reduceMul, Int.reduceEq, Int.reduceNe, Int.reduceLT, Int.reduceLE, Int.reduceGT, Int.reduceGE, hN5, arow, ans0]
        refine hend _ _ _ _ _ _ _ _ (Mem.le_set hMN (hid5 _ (Nat.le_refl _))) (by rw [doL, if_pos hk]) (by rw [doA, if_pos hk]; rfl)
      | true =>
        simp -implicitDefEqProofs (maxSteps := 1000000) (disch := omega) only [↓xsP, ↓vc_seq, xsQ, xsT, xsR, xsD, ↓reduceIte, reduceCtorEq, eq_self, ne_eq, imp_self, forall_const, Nat.reduceEqDiff, Nat.reduceAdd, Nat.reduceSub, Nat.reduceMul, Nat.reduceLT, Nat.reduceLeDiff, Nat.reduceBEq, Nat.reduceDiv, Nat.reduceMod, Int.reduceToNat, Int.reduceNeg, Int.reduceAdd, Int.reduceSub, Int.reduceMul, Int.reduceEq, Int.reduceNe, Int.reduceLT, Int.reduceLE, Int.reduceGT, Int.reduceGE]
        rw [okOp, hr, hm]
        rfl
  · rintro fr N' ⟨rfl, hok, h0, h3, h5⟩
    have hok' : ¬ okOp l op = false := by rw [hok]; simp
    have hmay : mayOpB op = true := by
      rw [okOp, Bool.and_eq_true] at hok
      exact hok.2
    simp only [mayOpB, Bool.and_eq_true, decide_eq_true_eq] at hmay
    refine vc_seq_of ?_
    simp -implicitDefEqProofs (maxSteps := 1000000) (disch := omega) only [↓xsP, xsQ, xsT, xsR, xsD, ↓reduceIte, reduceCtorEq, eq_self, ne_eq, imp_self, forall_const, Nat.reduceEqDiff, Nat.reduceAdd, Nat.reduceSub, Nat.reduceMul, Nat.reduceLT, Nat.reduceLeDiff, Nat.reduceBEq, Nat.reduceDiv, Nat.reduceMod, Int.reduceToNat, Int.reduceNeg, Int.reduceAdd, Int.reduceSub, Int.reduceMul, Int.reduceEq, Int.reduceNe, Int.reduceLT, Int.reduceLE, Int.reduceGT, Int.reduceGE, h0, h3, h5]
    refine newI_intro fun id6 hid6 => ?_
    have h56 : id5 < id6 := lt_of_bnd hid6 hN5
    have h36 : id3 < id6 := lt_of_bnd hid6 hN3
    simp -implicitDefEqProofs (maxSteps := 1000000) (disch := omega) only [↓xsP, xsQ, xsT, xsR, xsD, ↓reduceIte, reduceCtorEq, eq_self, ne_eq, imp_self, forall_const, Nat.reduceEqDiff, Nat.reduceAdd, Nat.reduceSub, Nat.reduceMul, Nat.reduceLT, Nat.reduceLeDiff, Nat.reduceBEq, Nat.reduceDiv, Nat.reduceMod, Int.reduceToNat, Int.reduceNeg, Int.reduceAdd, Int.reduceSub, Int.reduceMul, Int.reduceEq, Int.reduceNe, Int.reduceLT, Int.reduceLE, Int.reduceGT, Int.reduceGE, h0, h3, h5]
    have hM6 : M id6 = none := by
      cases hq : M id6 with
      | none => rfl
      | some b => have := hMN _ _ hq; rw [hid6 _ (Nat.le_refl _)] at this; cases this
    refine vc_cut (fun fr N => fr 0 = .l (.sl (l.map Pr.row)) ∧ fr 5 = .l (.ptr id5 0 0) ∧ fr 6 = .l (.ptr id6 0 0) ∧ DoMid l op M id5 id6 N) ?_ ?_
    · have hget : ∀ {k : Int}, op.kind = k → 5 ≤ k → doL l op = l := fun h1 h2 => by
        rw [doL, if_neg hok', if_neg (by omega)]
      by_cases k5 : op.kind = 5
      · have q5 : (op.kind = 5) = True := eq_true k5
        have hdo : doA l op = ⟨0, false, ⟨0, 0⟩, (inRange l op).length, inRange l op⟩ := by rw [doA, if_neg hok', if_pos k5]
        simp -implicitDefEqProofs (maxSteps := 1000000) (disch := omega) only [↓xsP, ↓vc_seq, xsQ, xsT, xsR, xsD, ↓reduceIte, reduceCtorEq, eq_self, ne_eq, imp_self, forall_const, Nat.reduceEqDiff, Nat.reduceAdd, Nat.reduceSub, Nat.reduceMul, Nat.reduceLT, Nat.reduceLeDiff, Nat.reduceBEq, Nat.reduceDiv, Nat.reduceMod, Int.reduceToNat, Int.reduceNeg, Int.reduceAdd, Int.reduceSub, Int.reduceMul, Int.reduceEq, Int.reduceNe, Int.reduceLT, Int.reduceLE, Int.reduceGT, Int.reduceGE, h0, h3, h5, hN3, q5]
        refine call_of (within_spec l hl op.key op.to _) ?_
        simp -implicitDefEqProofs (maxSteps := 1000000) (disch := omega) only [↓xsP, ↓vc_seq, xsQ, xsT, xsR, xsD, ↓reduceIte, reduceCtorEq, eq_self, ne_eq, imp_self, forall_const, Nat.reduceEqDiff, Nat.reduceAdd, Nat.reduceSub, Nat.reduceMul, Nat.reduceLT, Nat.reduceLeDiff, Nat.reduceBEq, Nat.reduceDiv, Nat.reduceMod, Int.reduceToNat, Int.reduceNeg, Int.reduceAdd, Int.reduceSub, Int.reduceMul, Int.reduceEq, Int.reduceNe, Int.reduceLT, Int.reduceLE, Int.reduceGT, Int.reduceGE, h0, h3, h5, hN3, q5]
        exact doMid_set (hget k5 (by omega)) hMN hM6 (by omega) hN5 (by rw [hdo]; rfl)
      · have q5 : (op.kind = 5) = False := eq_false k5
        by_cases k6 : op.kind = 6
        · have q6 : (op.kind = 6) = True := eq_true k6
          have hdo : doA l op = ⟨0, false, ⟨0, 0⟩, (inRange l op).length, []⟩ := by rw [doA, if_neg hok', if_neg k5, if_pos k6]
          simp -implicitDefEqProofs (maxSteps := 1000000) (disch := omega) only [↓xsP, ↓vc_seq, xsQ, xsT, xsR, xsD, ↓reduceIte, reduceCtorEq, eq_self, ne_eq, imp_self, forall_const, Nat.reduceEqDiff, Nat.reduceAdd, Nat.reduceSub, Nat.reduceMul, Nat.reduceLT, Nat.reduceLeDiff, Nat.reduceBEq, Nat.reduceDiv, Nat.reduceMod, Int.reduceToNat, Int.reduceNeg, Int.reduceAdd, Int.reduceSub, Int.reduceMul, Int.reduceEq, Int.reduceNe, Int.reduceLT, Int.reduceLE, Int.reduceGT, Int.reduceGE, h0, h3, h5, hN3, q5, q6]
          refine call_of (within_spec l hl op.key op.to _) ?_
          simp -implicitDefEqProofs (maxSteps := 1000000) (disch := omega) only [↓xsP, ↓vc_seq, xsQ, xsT, xsR, xsD, ↓reduceIte, reduceCtorEq, eq_self, ne_eq, imp_self, forall_const, Nat.reduceEqDiff, Nat.reduceAdd, Nat.reduceSub, Nat.reduceMul, Nat.reduceLT, Nat.reduceLeDiff, Nat.reduceBEq, Nat.reduceDiv, Nat.reduceMod, Int.reduceToNat, Int.reduceNeg, Int.reduceAdd, Int.reduceSub, Int.reduceMul, Int.reduceEq, Int.reduceNe, Int.reduceLT, Int.reduceLE, Int.reduceGT, Int.reduceGE, h0, h3, h5, hN3, q5, q6]
          exact doMid_set (hget k6 (by omega)) hMN hM6 (by omega) hN5 (by rw [hdo]; rfl)
        · have q6 : (op.kind = 6) = False := eq_false k6
          by_cases k7 : op.kind = 7
          · have q7 : (op.kind = 7) = True := eq_true k7
            have q8 : (op.kind = 8) = False := eq_false (by omega)
            have hdo : doA l op = (if l = [] then ans0 else ⟨0, true, l.getD 0 default, 0, []⟩) := by rw [doA, if_neg hok', if_neg k5, if_neg k6, if_pos k7]
            simp -implicitDefEqProofs (maxSteps := 1000000) (disch := omega) only [↓xsP, ↓vc_seq, xsQ, xsT, xsR, xsD, ↓reduceIte, reduceCtorEq, eq_self, ne_eq, imp_self, forall_const, Nat.reduceEqDiff, Nat.reduceAdd, Nat.reduceSub, Nat.reduceMul, Nat.reduceLT, Nat.reduceLeDiff, Nat.reduceBEq, Nat.reduceDiv, Nat.reduceMod, Int.reduceToNat, Int.reduceNeg, Int.reduceAdd, Int.reduceSub, Int.reduceMul, Int.reduceEq, Int.reduceNe, Int.reduceLT, Int.reduceLE, Int.reduceGT, Int.reduceGE, h0, h3, h5, hN3, q5, q6, q7]
            refine condI_prop (fun hp => ?_) (fun hp => ?_)
            · have hl0 : ¬ l = [] := fun e => by subst e; simp at hp
              have hpos : ((l.length : Int) > 0) = True := eq_true hp
              have hpos' : 0 < l.length := by omega
              rw [if_neg hl0] at hdo
              simp -implicitDefEqProofs (maxSteps := 1000000) (disch := omega) only [↓xsP, ↓vc_seq, xsQ, xsT, xsR, xsD, ↓reduceIte, reduceCtorEq, eq_self, ne_eq, imp_self, forall_const, Nat.reduceEqDiff, Nat.reduceAdd, Nat.reduceSub, Nat.reduceMul, Nat.reduceLT, Nat.reduceLeDiff, Nat.reduceBEq, Nat.reduceDiv, Nat.reduceMod, Int.reduceToNat, Int.reduceNeg, Int.reduceAdd, Int.reduceSub, Int.reduceMul, Int.reduceEq, Int.reduceNe, Int.reduceLT, Int.reduceLE, Int.reduceGT, Int.reduceGE, h0, h3, h5, hN3, q7, q8, hpos]
              exact doMid_set (hget k7 (by omega)) hMN hM6 (by omega) hN5 (by rw [hdo]; rfl)
            · have hl0 : l = [] := List.eq_nil_of_length_eq_zero (by omega)
              have hpos : ((l.length : Int) > 0) = False := eq_false hp
              rw [if_pos hl0] at hdo
              simp -implicitDefEqProofs (maxSteps := 1000000) (disch := omega) only [↓xsP, ↓vc_seq, xsQ, xsT, xsR, xsD, ↓reduceIte, reduceCtorEq, eq_self, ne_eq, imp_self, forall_const, Nat.reduceEqDiff, Nat.reduceAdd, Nat.reduceSub, Nat.reduceMul, Nat.reduceLT, Nat.reduceLeDiff, Nat.reduceBEq, Nat.reduceDiv, Nat.reduceMod, Int.reduceToNat, Int.reduceNeg, Int.reduceAdd, Int.reduceSub, Int.reduceMul, Int.reduceEq, Int.reduceNe, Int.reduceLT, Int.reduceLE, Int.reduceGT, Int.reduceGE, h0, h3, h5, hN3, q7, q8, hpos]
              exact doMid_set (hget k7 (by omega)) hMN hM6 (by omega) hN5 (by rw [hdo]; rfl)
          · have q7 : (op.kind = 7) = False := eq_false k7
            by_cases k8 : op.kind = 8
            · have q8 : (op.kind = 8) = True := eq_true k8
              have hdo : doA l op = (if l = [] then ans0 else ⟨0, true, l.getD (l.length - 1) default, 0, []⟩) := by rw [doA, if_neg hok', if_neg k5, if_neg k6, if_neg k7, if_pos k8]
              simp -implicitDefEqProofs (maxSteps := 1000000) (disch := omega) only [↓xsP, ↓vc_seq, xsQ, xsT, xsR, xsD, ↓reduceIte, reduceCtorEq, eq_self, ne_eq, imp_self, forall_const, Nat.reduceEqDiff, Nat.reduceAdd, Nat.reduceSub, Nat.reduceMul, Nat.reduceLT, Nat.reduceLeDiff, Nat.reduceBEq, Nat.reduceDiv, Nat.reduceMod, Int.reduceToNat, Int.reduceNeg, Int.reduceAdd, Int.reduceSub, Int.reduceMul, Int.reduceEq, Int.reduceNe, Int.reduceLT, Int.reduceLE, Int.reduceGT, Int.reduceGE, h0, h3, h5, hN3, q5, q6, q7, q8]
              refine condI_prop (fun hp => ?_) (fun hp => ?_)
              · have hl0 : ¬ l = [] := fun e => by subst e; simp at hp
                have hpos : ((l.length : Int) > 0) = True := eq_true hp
                have hpos' : 0 < l.length := by omega
                rw [if_neg hl0] at hdo
                simp -implicitDefEqProofs (maxSteps := 1000000) (disch := omega) only [↓xsP, ↓vc_seq, xsQ, xsT, xsR, xsD, ↓reduceIte, reduceCtorEq, eq_self, ne_eq, imp_self, forall_const, Nat.reduceEqDiff, Nat.reduceAdd, Nat.reduceSub, Nat.reduceMul, Nat.reduceLT, Nat.reduceLeDiff, Nat.reduceBEq, Nat.reduceDiv, Nat.reduceMod, Int.reduceToNat, Int.reduceNeg, Int.reduceAdd, Int.reduceSub, Int.reduceMul, Int.reduceEq, Int.reduceNe, Int.reduceLT, Int.reduceLE, Int.reduceGT, Int.reduceGE, h0, h3, h5, hN3, q7, q8, hpos]
                exact doMid_set (hget k8 (by omega)) hMN hM6 (by omega) hN5 (by rw [hdo]; rfl)
              · have hl0 : l = [] := List.eq_nil_of_length_eq_zero (by omega)
                have hpos : ((l.length : Int) > 0) = False := eq_false hp
                rw [if_pos hl0] at hdo
                simp -implicitDefEqProofs (maxSteps := 1000000) (disch := omega) only [↓xsP, ↓vc_seq, xsQ, xsT, xsR, xsD, ↓reduceIte, reduceCtorEq, eq_self, ne_eq, imp_self, forall_const, Nat.reduceEqDiff, Nat.reduceAdd, Nat.reduceSub, Nat.reduceMul, Nat.reduceLT, Nat.reduceLeDiff, Nat.reduceBEq, Nat.reduceDiv, Nat.reduceMod, Int.reduceToNat, Int.reduceNeg, Int.reduceAdd, Int.reduceSub, Int.reduceMul, Int.reduceEq, Int.reduceNe, Int.reduceLT, Int.reduceLE, Int.reduceGT, Int.reduceGE, h0, h3, h5, hN3, q7, q8, hpos]
                exact doMid_set (hget k8 (by omega)) hMN hM6 (by omega) hN5 (by rw [hdo]; rfl)
            · have q8 : (op.kind = 8) = False := eq_false k8
              have hdo : doA l op = ansAt l (place l op.key) := by rw [doA, if_neg hok', if_neg k5, if_neg k6, if_neg k7, if_neg k8]
              have hdl : doL l op = oneL l op := by
                rw [doL, if_neg hok']
                split
                · rfl
                · rename_i hk
                  exact (oneL_get (by omega) (by omega) (by omega)).symm
              simp -implicitDefEqProofs (maxSteps := 1000000) (disch := omega) only [↓xsP, ↓vc_seq, xsQ, xsT, xsR, xsD, ↓reduceIte, reduceCtorEq, eq_self, ne_eq, imp_self, forall_const, Nat.reduceEqDiff, Nat.reduceAdd, Nat.reduceSub, Nat.reduceMul, Nat.reduceLT, Nat.reduceLeDiff, Nat.reduceBEq, Nat.reduceDiv, Nat.reduceMod, Int.reduceToNat, Int.reduceNeg, Int.reduceAdd, Int.reduceSub, Int.reduceMul, Int.reduceEq, Int.reduceNe, Int.reduceLT, Int.reduceLE, Int.reduceGT, Int.reduceGE, h0, h3, h5, hN3, q5, q6, q7, q8]
              refine call_of (one_spec l hl op _) ?_
              simp -implicitDefEqProofs (maxSteps := 1000000) (disch := omega) only [↓xsP, ↓vc_seq, xsQ, xsT, xsR, xsD, ↓reduceIte, reduceCtorEq, eq_self, ne_eq, imp_self, forall_const, Nat.reduceEqDiff, Nat.reduceAdd, Nat.reduceSub, Nat.reduceMul, Nat.reduceLT, Nat.reduceLeDiff, Nat.reduceBEq, Nat.reduceDiv, Nat.reduceMod, Int.reduceToNat, Int.reduceNeg, Int.reduceAdd, Int.reduceSub, Int.reduceMul, Int.reduceEq, Int.reduceNe, Int.reduceLT, Int.reduceLE, Int.reduceGT, Int.reduceGE, h0, h3, h5, hN5, arow, ans0]
              exact hend _ _ _ _ _ _ _ _ (Mem.le_set (Mem.le_set hMN hM6) (hid5 _ (Nat.le_refl _))) hdl.symm (by rw [hdo]; rfl)
    · clear h0 h3 h5
      rintro fr N ⟨h0, h5, h6, hdl, hMN2, hN5', a, b, c, d, e, f, hN6, hw⟩
      refine vc_seq_of ?_
      simp -implicitDefEqProofs (maxSteps := 1000000) (disch := omega) only [↓xsP, xsQ, xsT, xsR, xsD, ↓reduceIte, reduceCtorEq, eq_self, ne_eq, imp_self, forall_const, Nat.reduceEqDiff, Nat.reduceAdd, Nat.reduceSub, Nat.reduceMul, Nat.reduceLT, Nat.reduceLeDiff, Nat.reduceBEq, Nat.reduceDiv, Nat.reduceMod, Int.reduceToNat, Int.reduceNeg, Int.reduceAdd, Int.reduceSub, Int.reduceMul, Int.reduceEq, Int.reduceNe, Int.reduceLT, Int.reduceLE, Int.reduceGT, Int.reduceGE, h0, h5, h6]
      refine xwrite (fun n0 => [ (4, id5)]) [4] [] [[], [], [], [], []] (by kernel_rfl) (by kernel_rfl) (by kernel_rfl) (by kernel_rfl) (fun n0 hn0 => ⟨rfl, ?_, ?_⟩)
      · exact TOk_cons (.inl (lt_of_bnd hn0 hN5')) (TOk_nil _ _)
      · have h5n := lt_of_bnd hn0 hN5'
        have h6n := lt_of_bnd hn0 hN6
        simp -implicitDefEqProofs (maxSteps := 1000000) (disch := omega) only [↓xsP, ↓vc_seq, xsQ, xsT, xsR, xsD, ↓reduceIte, reduceCtorEq, eq_self, ne_eq, imp_self, forall_const, Nat.reduceEqDiff, Nat.reduceAdd, Nat.reduceSub, Nat.reduceMul, Nat.reduceLT, Nat.reduceLeDiff, Nat.reduceBEq, Nat.reduceDiv, Nat.reduceMod, Int.reduceToNat, Int.reduceNeg, Int.reduceAdd, Int.reduceSub, Int.reduceMul, Int.reduceEq, Int.reduceNe, Int.reduceLT, Int.reduceLE, Int.reduceGT, Int.reduceGE, h0, h5, h6]
        refine ⟨.l (.sl (l.map Pr.row)), [], fun M' hle => XCalls.mono (clone_spec l hl M') (by rintro _ _ ⟨rfl, rfl⟩; exact ⟨rfl, Mem.le_refl _⟩), ?_⟩
        simp -implicitDefEqProofs (maxSteps := 1000000) (disch := omega) only [↓xsP, ↓vc_seq, xsQ, xsT, xsR, xsD, ↓reduceIte, reduceCtorEq, eq_self, ne_eq, imp_self, forall_const, Nat.reduceEqDiff, Nat.reduceAdd, Nat.reduceSub, Nat.reduceMul, Nat.reduceLT, Nat.reduceLeDiff, Nat.reduceBEq, Nat.reduceDiv, Nat.reduceMod, Int.reduceToNat, Int.reduceNeg, Int.reduceAdd, Int.reduceSub, Int.reduceMul, Int.reduceEq, Int.reduceNe, Int.reduceLT, Int.reduceLE, Int.reduceGT, Int.reduceGE, h0, h5, h6, hN5', hN6, arow]
        exact hend _ _ _ _ _ _ _ _ (Mem.le_set hMN2 (hid5 _ (Nat.le_refl _))) hdl.symm hw
end Go.X

/- What layer 13's awake does: it says yes. -/

set_option linter.unusedVariables false
set_option linter.unusedSimpArgs false
set_option maxHeartbeats 20000000
set_option maxRecDepth 100000
namespace Go.X
open Go.Proofs.Try (prog)

theorem XCalls.kept2 {P : Program} {f : FuncId} {M : Mem} {K : AV → Mem → Prop} (id n : Nat) {T keep : Nat} {rows : List (List Lf)} {cs : List Lf} (hM : M id = some (.cells T rows keep)) (hn : n = rows.length) (hk : rows.length ≤ keep) (hc : cs.map (frzL id rows) = cs)
    (h : XCalls P f [.l (.sl rows), .agg cs] M K) : XCalls P f [.l (.ms id 0 n), .agg cs] M K := by
  subst hn
  refine XCalls.frz0 id hM hk ?_
  simpa [frzA, frz1, frzL, List.take_of_length_le, hc] using h
theorem opn_frz (id : Nat) (rows : List (List Lf)) (o : Opn) : o.row.map (frzL id rows) = o.row := by simp [Opn.row, frzL]
theorem prs_wk (l : List Pr) : (l.map Pr.row).map (fun r => r.map wkL) = l.map Pr.row := by
  simp only [List.map_map]
  exact List.map_congr_left fun p _ => by simp [Pr.row, wkL]

def aw0 : List Pr := [⟨1, 5⟩]
def awp : Opn := ⟨1, 3, 0, 7⟩
def awr : Opn := ⟨5, 2, 9, 0⟩
theorem rises2 {a b : Pr} (h : a.key < b.key) : Rises [a, b] := fun j h1 h2 => by
  have : j = 1 := by simp at h2; omega
  subst this
  simpa using h
theorem rises1 (a : Pr) : Rises [a] := fun j h1 h2 => by simp at h2; omega
theorem aw_ok0 : okOp aw0 awp = true := by
  rw [okOp, bof_true (show Rises aw0 from rises1 _)]
  rfl
theorem aw_l : doL aw0 awp = [⟨1, 5⟩, ⟨3, 7⟩] := by
  rw [doL, if_neg (by rw [aw_ok0]; simp), if_pos (.inl rfl)]
  decide
theorem aw_a : (doA aw0 awp).ok = false := by
  rw [doA, if_neg (by rw [aw_ok0]; simp), if_neg (by decide), if_neg (by decide), if_neg (by decide), if_neg (by decide)]
  decide
theorem aw_ok1 : okOp [⟨1, 5⟩, ⟨3, 7⟩] awr = true := by
  rw [okOp, bof_true (rises2 (by decide))]
  rfl
theorem aw_b : doA [⟨1, 5⟩, ⟨3, 7⟩] awr = ⟨0, false, ⟨0, 0⟩, 1, [⟨3, 7⟩]⟩ := by
  rw [doA, if_neg (by rw [aw_ok1]; simp), if_pos (show awr.kind = 5 from rfl)]
  decide
end Go.X

/- Plain laws of leaves: where a key stands, and what an operation on it makes. -/

set_option linter.unusedVariables false
set_option linter.unusedSimpArgs false
namespace Go.X

def Asc (l : List Pr) : Prop := l.Pairwise fun a b => a.key < b.key
theorem rises_cons {x y : Pr} {r : List Pr} : Rises (x :: y :: r) ↔ x.key < y.key ∧ Rises (y :: r) := by
  constructor
  · intro h
    refine ⟨by simpa using h 1 (Nat.le_refl _) (by simp), fun j h1 h2 => ?_⟩
    have := h (j + 1) (by omega) (by simpa using h2)
    cases j with
    | zero => omega
    | succ j => simpa using this
  · rintro ⟨h, hr⟩ j h1 h2
    cases j with
    | zero => omega
    | succ j =>
      cases j with
      | zero => simpa using h
      | succ j => simpa using hr (j + 1) (by omega) (by simpa using h2)
theorem rises_asc : ∀ (l : List Pr), Rises l ↔ Asc l
  | [] => ⟨fun _ => List.Pairwise.nil, fun _ j h1 h2 => by simp at h2⟩
  | [x] => ⟨fun _ => List.pairwise_singleton _ _, fun _ j h1 h2 => by simp at h2; omega⟩
  | x :: y :: r => by
    rw [rises_cons, rises_asc (y :: r)]
    constructor
    · rintro ⟨h, hr⟩
      refine List.pairwise_cons.2 ⟨fun b hb => ?_, hr⟩
      rcases List.mem_cons.1 hb with rfl | hb
      · exact h
      · have := (List.pairwise_cons.1 hr).1 b hb
        omega
    · intro hr
      have h2 := List.pairwise_cons.1 hr
      exact ⟨h2.1 y (by simp), h2.2⟩

def Out (k : Int) (A C l : List Pr) : Prop := l = A ++ C ∧ (∀ a ∈ A, a.key < k) ∧ ∀ c ∈ C, k < c.key
def Inn (k : Int) (A : List Pr) (x : Pr) (C l : List Pr) : Prop := l = A ++ x :: C ∧ x.key = k ∧ (∀ a ∈ A, a.key < k) ∧ ∀ c ∈ C, k < c.key
theorem forms (k : Int) : ∀ (l : List Pr), Asc l → (∃ A C, Out k A C l) ∨ ∃ A x C, Inn k A x C l
  | [], _ => .inl ⟨[], [], rfl, (fun a h => by cases h), (fun a h => by cases h)⟩
  | x :: r, h => by
    obtain ⟨h1, h2⟩ := List.pairwise_cons.1 h
    by_cases hx : x.key < k
    · rcases forms k r h2 with ⟨A, C, rfl, ha, hc⟩ | ⟨A, y, C, rfl, hy, ha, hc⟩
      · exact .inl ⟨x :: A, C, rfl, (fun a h => by rcases List.mem_cons.1 h with rfl | h; exact hx; exact ha a h), hc⟩
      · exact .inr ⟨x :: A, y, C, rfl, hy, (fun a h => by rcases List.mem_cons.1 h with rfl | h; exact hx; exact ha a h), hc⟩
    · by_cases he : x.key = k
      · exact .inr ⟨[], x, r, rfl, he, (fun a h => by cases h), fun c hc => by have := h1 c hc; omega⟩
      · refine .inl ⟨[], x :: r, rfl, (fun a h => by cases h), fun c hc => ?_⟩
        rcases List.mem_cons.1 hc with rfl | hc
        · omega
        · have := h1 c hc
          omega
theorem asc_app {A C : List Pr} {p : Pr} {k : Int} (h : Asc (A ++ C)) (ha : ∀ a ∈ A, a.key < p.key) (hc : ∀ c ∈ C, p.key < c.key) : Asc (A ++ p :: C) := by
  rw [Asc, List.pairwise_append] at h ⊢
  refine ⟨h.1, List.pairwise_cons.2 ⟨hc, h.2.1⟩, fun a h1 b h2 => ?_⟩
  rcases List.mem_cons.1 h2 with rfl | h2
  · exact ha a h1
  · exact h.2.2 a h1 b h2
theorem asc_del {A C : List Pr} {p : Pr} (h : Asc (A ++ p :: C)) : Asc (A ++ C) := by
  rw [Asc, List.pairwise_append] at h ⊢
  exact ⟨h.1, (List.pairwise_cons.1 h.2.1).2, fun a h1 b h2 => h.2.2 a h1 b (List.mem_cons_of_mem _ h2)⟩

theorem wat_app {k : Int} {B : List Pr} : ∀ {A : List Pr}, (∀ a ∈ A, a.key < k) → wat k (A ++ B) = A.length + wat k B
  | [], _ => by simp
  | a :: A, h => by
    simp only [List.cons_append, wat, if_pos (h a (by simp)), List.length_cons]
    rw [wat_app fun b hb => h b (by simp [hb])]
    omega
theorem wat_ge {k : Int} {B : List Pr} (h : ∀ b ∈ B, k ≤ b.key) : wat k B = 0 := by
  cases B with
  | nil => rfl
  | cons b r => simp only [wat]; rw [if_neg (by have := h b (by simp); omega)]
theorem pidx_app {q : Pr → Bool} {B : List Pr} : ∀ {A : List Pr} (i : Nat), (∀ a ∈ A, q a = false) → pidx q (A ++ B) i = pidx q B (i + A.length)
  | [], i, _ => by simp
  | a :: A, i, h => by
    simp only [List.cons_append, pidx, h a (by simp), Bool.false_eq_true, if_false, List.length_cons]
    rw [pidx_app (i + 1) fun b hb => h b (by simp [hb])]
    congr 1
    omega
theorem pidx_none {q : Pr → Bool} : ∀ {B : List Pr} (i : Nat), (∀ b ∈ B, q b = false) → pidx q B i = -1
  | [], _, _ => rfl
  | b :: B, i, h => by
    simp only [pidx, h b (by simp), Bool.false_eq_true, if_false]
    exact pidx_none (i + 1) fun c hc => h c (by simp [hc])

section
variable {k : Int} {A C l : List Pr} {x : Pr}
theorem Out.place (h : Out k A C l) : place l k = -1 := by
  obtain ⟨rfl, ha, hc⟩ := h
  exact pidx_none 0 fun b hb => by
    rcases List.mem_append.1 hb with hb | hb
    · have := ha b hb; simp; omega
    · have := hc b hb; simp; omega
theorem Inn.place (h : Inn k A x C l) : place l k = A.length := by
  obtain ⟨rfl, hx, ha, hc⟩ := h
  rw [Go.X.place, pidx_app 0 fun b hb => by have := ha b hb; simp; omega]
  simp [pidx, hx]
theorem Inn.get (h : Inn k A x C l) : l.getD A.length default = x := by
  obtain ⟨rfl, _⟩ := h
  simp [List.getD_eq_getElem?_getD]
theorem Out.with (h : Out k A C l) (v : Int) : withL l ⟨k, v⟩ = A ++ ⟨k, v⟩ :: C := by
  obtain ⟨rfl, ha, hc⟩ := h
  have hw : wat k (A ++ C) = A.length := by rw [wat_app ha, wat_ge fun b hb => by have := hc b hb; omega]; rfl
  have hr : withRest (A ++ C) ⟨k, v⟩ = C := by
    unfold withRest
    simp only [hw, List.drop_left]
    cases C with
    | nil => rfl
    | cons c r =>
      have := hc c (by simp)
      simp only
      rw [if_neg (by omega)]
  rw [withL, hr]
  simp [hw]
theorem Inn.with (h : Inn k A x C l) (v : Int) : withL l ⟨k, v⟩ = A ++ ⟨k, v⟩ :: C := by
  obtain ⟨rfl, hx, ha, hc⟩ := h
  have hw : wat k (A ++ x :: C) = A.length := by
    rw [wat_app ha, wat_ge fun b hb => by
      rcases List.mem_cons.1 hb with rfl | hb
      · omega
      · have := hc b hb; omega]
    rfl
  have hr : withRest (A ++ x :: C) ⟨k, v⟩ = C := by
    unfold withRest
    simp only [hw, List.drop_left]
    rw [if_pos hx]
  rw [withL, hr]
  simp [hw]
theorem Inn.cut (h : Inn k A x C l) : l.take (Go.X.place l k).toNat ++ l.drop ((Go.X.place l k).toNat + 1) = A ++ C := by
  have hp := h.place
  obtain ⟨rfl, _⟩ := h
  rw [hp, Int.toNat_natCast]
  simp
end

/-- What an operation on a key makes of a leaf. -/
theorem one_forms {l : List Pr} (op : Opn) (h : Asc l) (h1 : 1 ≤ op.kind) :
    (∃ A C, Out op.key A C l ∧ ((op.kind = 1 ∨ op.kind = 2) ∧ oneL l op = A ++ ⟨op.key, op.val⟩ :: C ∨ 3 ≤ op.kind ∧ oneL l op = l)) ∨
    ∃ A x C, Inn op.key A x C l ∧ (op.kind = 1 ∧ oneL l op = A ++ ⟨op.key, op.val⟩ :: C ∨ op.kind = 3 ∧ oneL l op = A ++ C ∨ (op.kind = 2 ∨ 4 ≤ op.kind) ∧ oneL l op = l) := by
  rcases forms op.key l h with ⟨A, C, hO⟩ | ⟨A, x, C, hI⟩
  · refine .inl ⟨A, C, hO, ?_⟩
    have hp := hO.place
    by_cases h3 : 3 ≤ op.kind
    · exact .inr ⟨h3, by rw [oneL, if_neg (by omega), if_neg (by omega)]⟩
    · exact .inl ⟨by omega, by rw [oneL, if_pos (by omega), hO.with]⟩
  · refine .inr ⟨A, x, C, hI, ?_⟩
    have hp := hI.place
    by_cases k1 : op.kind = 1
    · exact .inl ⟨k1, by rw [oneL, if_pos (.inl k1), hI.with]⟩
    · by_cases k3 : op.kind = 3
      · exact .inr (.inl ⟨k3, by rw [oneL, if_neg (by omega), if_pos (by omega), hI.cut]⟩)
      · exact .inr (.inr ⟨by omega, by rw [oneL, if_neg (by omega), if_neg (by omega)]⟩)
end Go.X

/- Plain laws of leaves: an update done twice. -/

set_option linter.unusedVariables false
set_option linter.unusedSimpArgs false
namespace Go.X

theorem okOp_of {l : List Pr} {op : Opn} (h : Asc l) (hm : mayOpB op = true) : okOp l op = true := by
  rw [okOp, bof_true ((rises_asc l).2 h), hm]; rfl
theorem may_kind {op : Opn} (hm : mayOpB op = true) : 1 ≤ op.kind ∧ op.kind ≤ 8 := by simpa [mayOpB] using hm
theorem doL_upd {l : List Pr} {op : Opn} (h : Asc l) (hm : mayOpB op = true) (hk : op.kind ≤ 3) : doL l op = oneL l op := by
  have := may_kind hm
  rw [doL, if_neg (by rw [okOp_of h hm]; simp), if_pos (by omega)]
theorem doL_read {l : List Pr} {op : Opn} (hk : 4 ≤ op.kind) : doL l op = l := by
  rw [doL]
  split
  · rfl
  · rw [if_neg (by omega)]
theorem doA_one {l : List Pr} {op : Opn} (h : Asc l) (hm : mayOpB op = true) (hk : op.kind ≤ 4) : doA l op = ansAt l (place l op.key) := by
  rw [doA, if_neg (by rw [okOp_of h hm]; simp), if_neg (by omega), if_neg (by omega), if_neg (by omega), if_neg (by omega)]
def getOp (k : Int) : Opn := ⟨4, k, 0, 0⟩
theorem doA_get {l : List Pr} (k : Int) (h : Asc l) : doA l (getOp k) = ansAt l (place l k) := doA_one (op := getOp k) h rfl (show (4 : Int) ≤ 4 by decide)

theorem upd_law {l : List Pr} {op : Opn} (h : Asc l) (h1 : 1 ≤ op.kind) (h3 : op.kind ≤ 3) :
    Asc (oneL l op) ∧ oneL (oneL l op) op = oneL l op ∧ (ansAt (oneL l op) (place (oneL l op) op.key)).ok = decide (op.kind ≠ 3) := by
  have hsel : ∀ {A C : List Pr} {x : Pr} {m : List Pr}, Inn op.key A x C m → Asc m → op.kind ≠ 3 → (op.kind = 1 → x = ⟨op.key, op.val⟩) → oneL m op = m ∧ (ansAt m (place m op.key)).ok = decide (op.kind ≠ 3) := fun {A C x m} hI hm hk hx => by
    have hp := hI.place
    refine ⟨?_, ?_⟩
    · by_cases k1 : op.kind = 1
      · rw [oneL, if_pos (.inl k1), hI.with, ← hx k1, ← hI.1]
      · rw [oneL, if_neg (by omega), if_neg (by omega)]
    · rw [hp, ansAt, if_pos (by omega)]
      simp [hk]
  have hno : ∀ {A C m : List Pr}, Out op.key A C m → op.kind = 3 → oneL m op = m ∧ (ansAt m (place m op.key)).ok = decide (op.kind ≠ 3) := fun {A C m} hO hk => by
    have hp := hO.place
    refine ⟨by rw [oneL, if_neg (by omega), if_neg (by omega)], ?_⟩
    rw [hp, ansAt, if_neg (by omega)]
    simp [hk, ans0]
  rcases one_forms op h h1 with ⟨A, C, hO, hc⟩ | ⟨A, x, C, hI, hc⟩
  · rcases hc with ⟨hk, hm⟩ | ⟨hk, hm⟩
    · have hI : Inn op.key A ⟨op.key, op.val⟩ C (oneL l op) := ⟨hm, rfl, hO.2.1, hO.2.2⟩
      have ha : Asc (oneL l op) := by rw [hm]; exact asc_app (k := op.key) (by rw [← hO.1]; exact h) hO.2.1 hO.2.2
      exact ⟨ha, hsel hI ha (by omega) fun _ => rfl⟩
    · rw [hm]
      exact ⟨h, hno hO (by omega)⟩
  · rcases hc with ⟨hk, hm⟩ | ⟨hk, hm⟩ | ⟨hk, hm⟩
    · have hI2 : Inn op.key A ⟨op.key, op.val⟩ C (oneL l op) := ⟨hm, rfl, hI.2.2.1, hI.2.2.2⟩
      have ha : Asc (oneL l op) := by
        rw [hm]
        exact asc_app (k := op.key) (asc_del (p := x) (by rw [← hI.1]; exact h)) hI.2.2.1 hI.2.2.2
      exact ⟨ha, hsel hI2 ha (by omega) fun _ => rfl⟩
    · have hO : Out op.key A C (oneL l op) := ⟨hm, hI.2.2.1, hI.2.2.2⟩
      have ha : Asc (oneL l op) := by rw [hm]; exact asc_del (p := x) (by rw [← hI.1]; exact h)
      exact ⟨ha, hno hO hk⟩
    · rw [hm]
      exact ⟨h, hsel hI h (by omega) fun hk1 => by omega⟩
theorem oneL_len (l : List Pr) (op : Opn) : (oneL l op).length ≤ l.length + 1 := by
  unfold oneL
  split
  · have := withRest_len l ⟨op.key, op.val⟩
    change _ ≤ l.length - wat op.key l at this
    unfold withL
    simp only [List.length_append, List.length_take, List.length_cons, List.length_nil]
    omega
  · split
    · simp only [List.length_append, List.length_take, List.length_drop]
      omega
    · omega
theorem doL_len (l : List Pr) (op : Opn) : (doL l op).length ≤ l.length + 1 := by
  have := oneL_len l op
  unfold doL
  split
  · omega
  · split <;> omega
end Go.X

/- Plain laws of leaves: the ends, and what is left when the front is cut. -/

set_option linter.unusedVariables false
set_option linter.unusedSimpArgs false
namespace Go.X

def minOp : Opn := ⟨7, 0, 0, 0⟩
def maxOp : Opn := ⟨8, 0, 0, 0⟩
def cutOp (k : Int) : Opn := ⟨3, k, 0, 0⟩
theorem doA_min {l : List Pr} (h : Asc l) : doA l minOp = if l = [] then ans0 else ⟨0, true, l.getD 0 default, 0, []⟩ := by
  rw [doA, if_neg (by rw [okOp_of h rfl]; simp), if_neg (by decide), if_neg (by decide), if_pos (show minOp.kind = 7 from rfl)]
theorem doA_max {l : List Pr} (h : Asc l) : doA l maxOp = if l = [] then ans0 else ⟨0, true, l.getD (l.length - 1) default, 0, []⟩ := by
  rw [doA, if_neg (by rw [okOp_of h rfl]; simp), if_neg (by decide), if_neg (by decide), if_neg (by decide), if_pos (show maxOp.kind = 8 from rfl)]
theorem doL_cut {x : Pr} {r : List Pr} (h : Asc (x :: r)) : doL (x :: r) (cutOp x.key) = r := by
  have hI : Inn x.key [] x r (x :: r) := ⟨rfl, rfl, (fun a h => by cases h), (List.pairwise_cons.1 h).1⟩
  have hp := hI.place
  rw [doL_upd h rfl (show (3 : Int) ≤ 3 by decide), oneL, if_neg (by
    rintro (h1 | h1)
    · exact absurd h1 (show ¬ (3 : Int) = 1 by decide)
    · exact absurd h1.1 (show ¬ (3 : Int) = 2 by decide)), if_pos ⟨rfl, by show (0 : Int) ≤ place (x :: r) x.key; rw [hp]; simp⟩]
  exact hI.cut
theorem asc_drop {l : List Pr} (h : Asc l) (i : Nat) : Asc (l.drop i) := List.Pairwise.sublist (List.drop_sublist i l) h
theorem drop_cons {l : List Pr} {i : Nat} (hi : i < l.length) : l.drop i = l.getD i default :: l.drop (i + 1) := by
  rw [List.drop_eq_getElem_cons hi, List.getD_eq_getElem?_getD, List.getElem?_eq_getElem hi, Option.getD_some]
theorem getD_drop (l : List Pr) (i j : Nat) : (l.drop i).getD j default = l.getD (i + j) default := by
  simp [List.getD_eq_getElem?_getD, List.getElem?_drop]
end Go.X

/- Plain laws of leaves: ranges. -/

set_option linter.unusedVariables false
set_option linter.unusedSimpArgs false
namespace Go.X

def rangeOp (lo hi : Int) : Opn := ⟨5, lo, hi, 0⟩
def countOp (lo hi : Int) : Opn := ⟨6, lo, hi, 0⟩
def rng (l : List Pr) (lo hi : Int) : List Pr := stays (outside lo hi) l
theorem doA_range {l : List Pr} (h : Asc l) (lo hi : Int) : doA l (rangeOp lo hi) = ⟨0, false, ⟨0, 0⟩, (rng l lo hi).length, rng l lo hi⟩ := by
  rw [doA, if_neg (by rw [okOp_of h rfl]; simp), if_pos (show (rangeOp lo hi).kind = 5 from rfl)]
  rfl
theorem doA_count {l : List Pr} (h : Asc l) (lo hi : Int) : doA l (countOp lo hi) = ⟨0, false, ⟨0, 0⟩, (rng l lo hi).length, []⟩ := by
  rw [doA, if_neg (by rw [okOp_of h rfl]; simp), if_neg (show ¬ (countOp lo hi).kind = 5 by show ¬ (6 : Int) = 5; decide), if_pos (show (countOp lo hi).kind = 6 from rfl)]
  rfl
theorem rng_asc {l : List Pr} (h : Asc l) (lo hi : Int) : Asc (rng l lo hi) := List.Pairwise.sublist List.filter_sublist h
theorem rng_cons (x : Pr) (r : List Pr) (lo hi : Int) : rng (x :: r) lo hi = if outside lo hi x then rng r lo hi else x :: rng r lo hi := by
  simp only [rng, stays, List.filter_cons]
  cases outside lo hi x <;> simp
theorem rng_none {r : List Pr} {lo hi : Int} (h : ∀ b ∈ r, hi < b.key) : rng r lo hi = [] := by
  unfold rng stays
  rw [List.filter_eq_nil_iff]
  intro b hb
  have := h b hb
  simp [outside]
  omega
/-- Two ranges side by side are one. -/
theorem rng_join (lo mid hi : Int) (h1 : lo ≤ mid) (h2 : mid ≤ hi) : ∀ (l : List Pr), Asc l → rng l lo (mid - 1) ++ rng l mid hi = rng l lo hi
  | [], _ => rfl
  | x :: r, h => by
    obtain ⟨hx, hr⟩ := List.pairwise_cons.1 h
    have ih := rng_join lo mid hi h1 h2 r hr
    rw [rng_cons, rng_cons, rng_cons]
    by_cases c1 : x.key < lo
    · have e1 : outside lo (mid - 1) x = true := by simp [outside, c1]
      have e2 : outside mid hi x = true := by simp [outside]; omega
      have e3 : outside lo hi x = true := by simp [outside, c1]
      rw [e1, e2, e3]
      simpa using ih
    · by_cases c2 : x.key < mid
      · have e1 : outside lo (mid - 1) x = false := by simp [outside]; omega
        have e2 : outside mid hi x = true := by simp [outside]; omega
        have e3 : outside lo hi x = false := by simp [outside]; omega
        rw [e1, e2, e3]
        simpa using ih
      · have hn : rng r lo (mid - 1) = [] := rng_none fun b hb => by have := hx b hb; omega
        rw [hn, List.nil_append] at ih
        have e1 : outside lo (mid - 1) x = true := by simp [outside]; omega
        rw [e1, hn]
        by_cases c3 : x.key ≤ hi
        · have e2 : outside mid hi x = false := by simp [outside]; omega
          have e3 : outside lo hi x = false := by simp [outside]; omega
          rw [e2, e3]
          simpa using ih
        · have e2 : outside mid hi x = true := by simp [outside]; omega
          have e3 : outside lo hi x = true := by simp [outside]; omega
          rw [e2, e3]
          simpa using ih
theorem rng_len (l : List Pr) (lo hi : Int) : (rng l lo hi).length ≤ l.length := stays_len _ _
end Go.X

/- What is there at a key: plain laws of leaves as maps. -/

set_option linter.unusedVariables false
namespace Go.X

/-- What is there at a key. -/
def look : List Pr → Int → Option Int
  | [], _ => none
  | p :: r, k => if p.key = k then some p.val else look r k
theorem look_app (A B : List Pr) (k : Int) (h : ∀ a ∈ A, a.key ≠ k) : look (A ++ B) k = look B k := by
  induction A with
  | nil => rfl
  | cons x r ih =>
    rw [List.cons_append, look, if_neg (h x (by simp)), ih fun a ha => h a (by simp [ha])]
theorem look_none {l : List Pr} {k : Int} (h : ∀ a ∈ l, a.key ≠ k) : look l k = none := by
  have := look_app l [] k h
  simpa [look] using this
theorem look_mid {A C : List Pr} {x y : Pr} {k : Int} (hk : y.key = x.key) (h : k ≠ x.key) : look (A ++ y :: C) k = look (A ++ C) k := by
  induction A with
  | nil => rw [List.nil_append, look, if_neg (by omega)]; rfl
  | cons z r ih =>
    rw [List.cons_append, List.cons_append, look, look, ih]
theorem Out.look {A C l : List Pr} {k : Int} (h : Out k A C l) : look l k = none := by
  obtain ⟨rfl, h1, h2⟩ := h
  refine look_none fun a ha => ?_
  rcases List.mem_append.1 ha with h' | h'
  · have := h1 a h'; omega
  · have := h2 a h'; omega
theorem Inn.look {A C l : List Pr} {x : Pr} {k : Int} (h : Inn k A x C l) : look l k = some x.val := by
  obtain ⟨rfl, h1, h2, h3⟩ := h
  rw [look_app _ _ _ fun a ha => by have := h2 a ha; omega, Go.X.look, if_pos h1]
def lookA (k : Int) : Option Int → Ans
  | none => ans0
  | some v => ⟨0, true, ⟨k, v⟩, 0, []⟩
theorem ansAt_look {l : List Pr} (h : Asc l) (k : Int) : ansAt l (place l k) = lookA k (look l k) := by
  rcases forms k l h with ⟨A, C, hO⟩ | ⟨A, x, C, hI⟩
  · rw [hO.place, hO.look]; rfl
  · rw [hI.place, hI.look, ansAt, if_pos (by omega), Int.toNat_natCast, hI.get]
    have := hI.2.1
    subst this
    rfl
/-- What an operation makes of what is there at its key. -/
def upd1 (op : Opn) (o : Option Int) : Option Int :=
  if op.kind = 1 then some op.val else if op.kind = 2 then (match o with | none => some op.val | some v => some v) else if op.kind = 3 then none else o
theorem oneL_look {l : List Pr} {op : Opn} (h : Asc l) (h1 : 1 ≤ op.kind) (k : Int) : look (oneL l op) k = if k = op.key then upd1 op (look l k) else look l k := by
  rcases one_forms op h h1 with ⟨A, C, hO, hc⟩ | ⟨A, x, C, hI, hc⟩
  · rcases hc with ⟨hk, hm⟩ | ⟨hk, hm⟩
    · by_cases e : k = op.key
      · subst e
        have hI : Inn op.key A ⟨op.key, op.val⟩ C (oneL l op) := ⟨hm, rfl, hO.2.1, hO.2.2⟩
        rw [if_pos rfl, hI.look, hO.look, upd1]
        rcases hk with hk | hk
        · rw [if_pos hk]
        · rw [if_neg (by omega), if_pos hk]
      · rw [if_neg e, hm, look_mid (x := ⟨op.key, op.val⟩) rfl e, ← hO.1]
    · by_cases e : k = op.key
      · subst e
        rw [if_pos rfl, hm, hO.look, upd1, if_neg (by omega), if_neg (by omega)]
        split <;> rfl
      · rw [if_neg e, hm]
  · rcases hc with ⟨hk, hm⟩ | ⟨hk, hm⟩ | ⟨hk, hm⟩
    · by_cases e : k = op.key
      · subst e
        have hI2 : Inn op.key A ⟨op.key, op.val⟩ C (oneL l op) := ⟨hm, rfl, hI.2.2.1, hI.2.2.2⟩
        rw [if_pos rfl, hI2.look, hI.look, upd1, if_pos hk]
      · have hx := hI.2.1
        rw [if_neg e, hm, look_mid (x := ⟨op.key, op.val⟩) rfl e, hI.1, look_mid (x := x) rfl (by omega)]
    · have hx := hI.2.1
      by_cases e : k = op.key
      · subst e
        have hO : Out op.key A C (oneL l op) := ⟨hm, hI.2.2.1, hI.2.2.2⟩
        rw [if_pos rfl, hO.look, hI.look, upd1, if_neg (by omega), if_neg (by omega), if_pos hk]
      · rw [if_neg e, hm, hI.1, look_mid (x := x) rfl (by omega)]
    · by_cases e : k = op.key
      · subst e
        rw [if_pos rfl, hm, hI.look, upd1, if_neg (by omega)]
        rcases hk with hk | hk
        · rw [if_pos hk]
        · rw [if_neg (by omega), if_neg (by omega)]
      · rw [if_neg e, hm]
theorem look_head {x : Pr} {r : List Pr} (h : Asc (x :: r)) {k : Int} (hk : k < x.key) : look (x :: r) k = none := by
  refine look_none fun a ha => ?_
  rcases List.mem_cons.1 ha with rfl | h'
  · omega
  · have := (List.pairwise_cons.1 h).1 a h'
    omega
theorem look_ext : ∀ {l m : List Pr}, Asc l → Asc m → (∀ k, look l k = look m k) → l = m
  | [], [], _, _, _ => rfl
  | [], y :: s, _, _, h => by have := h y.key; rw [look, look, if_pos rfl] at this; cases this
  | x :: r, [], _, _, h => by have := h x.key; rw [look, look, if_pos rfl] at this; cases this
  | x :: r, y :: s, hl, hm, h => by
    have hxy : x.key = y.key := by
      rcases Int.lt_trichotomy x.key y.key with h' | h' | h'
      · have := h x.key
        rw [look_head hm h', look, if_pos rfl] at this
        cases this
      · exact h'
      · have := h y.key
        rw [look_head hl h', look, if_pos rfl] at this
        cases this
    have hv : x.val = y.val := by
      have := h x.key
      rw [look, look, if_pos rfl, if_pos hxy.symm] at this
      exact Option.some.inj this
    have e : x = y := by
      cases x; cases y
      simp at hxy hv
      rw [hxy, hv]
    subst e
    have hr : r = s := look_ext (List.pairwise_cons.1 hl).2 (List.pairwise_cons.1 hm).2 fun k => by
      have hk := h k
      rw [look, look] at hk
      by_cases hxk : x.key = k
      · subst hxk
        rw [look_none fun a ha => by have := (List.pairwise_cons.1 hl).1 a ha; omega, look_none fun a ha => by have := (List.pairwise_cons.1 hm).1 a ha; omega]
      · rw [if_neg hxk, if_neg hxk] at hk
        exact hk
    rw [hr]

theorem doL_asc {l : List Pr} (op : Opn) (h : Asc l) : Asc (doL l op) := by
  by_cases hm : mayOpB op = true
  · have hk := may_kind hm
    by_cases h3 : op.kind ≤ 3
    · rw [doL_upd h hm h3]
      exact (upd_law h hk.1 h3).1
    · rw [doL_read (by omega)]
      exact h
  · have : okOp l op = false := by
      rw [okOp]
      simp at hm
      rw [hm, Bool.and_false]
    rw [doL, if_pos this]
    exact h
theorem doL_look {l : List Pr} {op : Opn} (h : Asc l) (hm : mayOpB op = true) (hk : op.kind ≤ 4) (k : Int) : look (doL l op) k = if k = op.key then upd1 op (look l k) else look l k := by
  have h1 := (may_kind hm).1
  by_cases h3 : op.kind ≤ 3
  · rw [doL_upd h hm h3, oneL_look h h1]
  · have e : upd1 op (look l k) = look l k := by rw [upd1.eq_def, if_neg (show ¬ op.kind = 1 by omega), if_neg (show ¬ op.kind = 2 by omega), if_neg (show ¬ op.kind = 3 by omega)]
    rw [doL_read (by omega), e]
    split <;> rfl
theorem doA_look {l : List Pr} {op : Opn} (h : Asc l) (hm : mayOpB op = true) (hk : op.kind ≤ 4) : doA l op = lookA op.key (look l op.key) := by
  rw [doA_one h hm hk, ansAt_look h]
/-- Operations of unlike keys go by one another. -/
theorem do_swap {l : List Pr} {a b : Opn} (h : Asc l) (ha : mayOpB a = true) (ha4 : a.kind ≤ 4) (hb : mayOpB b = true) (hb4 : b.kind ≤ 4) (hne : a.key ≠ b.key) :
    doL (doL l a) b = doL (doL l b) a ∧ doA (doL l a) b = doA l b ∧ doA (doL l b) a = doA l a := by
  have hA := doL_asc a h
  have hB := doL_asc b h
  refine ⟨look_ext (doL_asc b hA) (doL_asc a hB) fun k => ?_, ?_, ?_⟩
  · rw [doL_look hA hb hb4, doL_look h ha ha4, doL_look hB ha ha4, doL_look h hb hb4]
    by_cases e1 : k = a.key
    · rw [if_neg (show ¬ k = b.key by omega), if_pos e1, if_pos e1, if_neg (by omega)]
    · by_cases e2 : k = b.key
      · rw [if_pos e2, if_neg e1, if_neg e1, if_pos e2]
      · rw [if_neg e2, if_neg e1, if_neg e1, if_neg e2]
  · rw [doA_look hA hb hb4, doA_look h hb hb4, doL_look h ha ha4, if_neg (by omega)]
  · rw [doA_look hB ha ha4, doA_look h ha ha4, doL_look h hb hb4, if_neg (by omega)]
end Go.X

/- What a map does: model's functions. -/


set_option linter.unusedVariables false
set_option linter.unusedSimpArgs false
set_option maxHeartbeats 20000000
set_option maxRecDepth 100000
namespace Go.X
open Go.Proofs.Try (prog)

/-- A map's block. -/
def mapB (s : List Pr) : Blk := .cells 66 [[.sl (s.map Pr.row)]] 0

theorem le_seti {M N : Mem} {id : Nat} {b : Blk} (h1 : N id = some b) (h2 : ∀ k bk, k ≠ id → M k = some bk → N k = some bk) : (M.set id b).le N := by
  intro k bk hk
  rw [Mem.set_app] at hk
  by_cases e : id = k
  · rw [if_pos e] at hk
    rw [← e, h1]
    exact hk
  · rw [if_neg e] at hk
    exact h2 k bk (fun h => e h.symm) hk

theorem modelDo_spec (s : List Pr) (hl : s.length ≤ 1000001) (op : Opn) (id : Nat) (M : Mem) (hM : M id = some (mapB s)) :
    XCalls Go.Proofs.Try.prog 54 [.l (.ptr id 0 0), .agg op.row] M fun r M' => r = .agg (doA s op).row ∧ M' = M.set id (mapB (doL s op)) := by
  refine xcalls_intro (rs := [.cell 4 69]) Go.Proofs.Try.func54 rfl (by kernel_rfl) rfl rfl (by kernel_rfl) (by simp) ?_
  simp -implicitDefEqProofs (maxSteps := 1000000) (disch := omega) only [↓xsP, ↓vc_seq, xsQ, xsT, xsR, xsD, ↓reduceIte, reduceCtorEq, eq_self, ne_eq, imp_self, forall_const, Nat.reduceEqDiff, Nat.reduceAdd, Nat.reduceSub, Nat.reduceMul, Nat.reduceLT, Nat.reduceLeDiff, Nat.reduceBEq, Nat.reduceDiv, Nat.reduceMod, Int.reduceToNat, Int.reduceNeg, Int.reduceAdd, Int.reduceSub, Int.reduceMul, Int.reduceEq, Int.reduceNe, Int.reduceLT, Int.reduceLE, Int.reduceGT, Int.reduceGE]
  refine newI_intro fun p3 hp3 => ?_
  have h3 : id < p3 := lt_of_bnd hp3 hM
  simp -implicitDefEqProofs (maxSteps := 1000000) (disch := omega) only [↓xsP, ↓vc_seq, xsQ, xsT, xsR, xsD, ↓reduceIte, reduceCtorEq, eq_self, ne_eq, imp_self, forall_const, Nat.reduceEqDiff, Nat.reduceAdd, Nat.reduceSub, Nat.reduceMul, Nat.reduceLT, Nat.reduceLeDiff, Nat.reduceBEq, Nat.reduceDiv, Nat.reduceMod, Int.reduceToNat, Int.reduceNeg, Int.reduceAdd, Int.reduceSub, Int.reduceMul, Int.reduceEq, Int.reduceNe, Int.reduceLT, Int.reduceLE, Int.reduceGT, Int.reduceGE]
  refine newI_intro fun p4 hp4 => ?_
  obtain ⟨h34, hp4⟩ := bnd_new hp4
  simp -implicitDefEqProofs (maxSteps := 1000000) (disch := omega) only [↓xsP, ↓vc_seq, xsQ, xsT, xsR, xsD, ↓reduceIte, reduceCtorEq, eq_self, ne_eq, imp_self, forall_const, Nat.reduceEqDiff, Nat.reduceAdd, Nat.reduceSub, Nat.reduceMul, Nat.reduceLT, Nat.reduceLeDiff, Nat.reduceBEq, Nat.reduceDiv, Nat.reduceMod, Int.reduceToNat, Int.reduceNeg, Int.reduceAdd, Int.reduceSub, Int.reduceMul, Int.reduceEq, Int.reduceNe, Int.reduceLT, Int.reduceLE, Int.reduceGT, Int.reduceGE]
  refine newI_intro fun p5 hp5 => ?_
  obtain ⟨h45, hp5⟩ := bnd_new hp5
  obtain ⟨h35, hp5⟩ := bnd_new hp5
  simp -implicitDefEqProofs (maxSteps := 1000000) (disch := omega) only [↓xsP, ↓vc_seq, xsQ, xsT, xsR, xsD, ↓reduceIte, reduceCtorEq, eq_self, ne_eq, imp_self, forall_const, Nat.reduceEqDiff, Nat.reduceAdd, Nat.reduceSub, Nat.reduceMul, Nat.reduceLT, Nat.reduceLeDiff, Nat.reduceBEq, Nat.reduceDiv, Nat.reduceMod, Int.reduceToNat, Int.reduceNeg, Int.reduceAdd, Int.reduceSub, Int.reduceMul, Int.reduceEq, Int.reduceNe, Int.reduceLT, Int.reduceLE, Int.reduceGT, Int.reduceGE]
  refine xwrite (fun n0 => [ (12, id), (13, p5)]) [12, 13] [] [[], [], [], [], [], [], [], [], [], [12], [], [], [], []] (by kernel_rfl) (by kernel_rfl) (by kernel_rfl) (by kernel_rfl) (fun n0 hn0 => ⟨rfl, ?_, ?_⟩)
  · exact TOk_cons (.inl (by have := lt_of_bnd hn0 (Mem.set_eq _ p5 _); omega)) (TOk_cons (.inl (lt_of_bnd hn0 (Mem.set_eq _ p5 _))) (TOk_nil _ _))
  · simp -implicitDefEqProofs (maxSteps := 1000000) (disch := omega) only [↓xsP, ↓vc_seq, xsQ, xsT, xsR, xsD, ↓reduceIte, reduceCtorEq, eq_self, ne_eq, imp_self, forall_const, Nat.reduceEqDiff, Nat.reduceAdd, Nat.reduceSub, Nat.reduceMul, Nat.reduceLT, Nat.reduceLeDiff, Nat.reduceBEq, Nat.reduceDiv, Nat.reduceMod, Int.reduceToNat, Int.reduceNeg, Int.reduceAdd, Int.reduceSub, Int.reduceMul, Int.reduceEq, Int.reduceNe, Int.reduceLT, Int.reduceLE, Int.reduceGT, Int.reduceGE, hM, mapB]
    refine wcallI_of (fun M' _ => do_spec s hl op M') ?_
    simp -implicitDefEqProofs (maxSteps := 1000000) (disch := omega) only [↓xsP, ↓vc_seq, xsQ, xsT, xsR, xsD, ↓reduceIte, reduceCtorEq, eq_self, ne_eq, imp_self, forall_const, Nat.reduceEqDiff, Nat.reduceAdd, Nat.reduceSub, Nat.reduceMul, Nat.reduceLT, Nat.reduceLeDiff, Nat.reduceBEq, Nat.reduceDiv, Nat.reduceMod, Int.reduceToNat, Int.reduceNeg, Int.reduceAdd, Int.reduceSub, Int.reduceMul, Int.reduceEq, Int.reduceNe, Int.reduceLT, Int.reduceLE, Int.reduceGT, Int.reduceGE, hM, mapB]
    refine fin_ok (le_seti ?_ fun k bk hk h => ?_) ⟨rfl, rfl⟩
    · simp (disch := omega) only [Mem.set_eq, Mem.set_ne, mapB]
    · have := lt_of_bnd hp3 h
      simp (disch := omega) only [Mem.set_ne, h]

theorem modelDo_nil (op : Opn) (M : Mem) :
    XCalls Go.Proofs.Try.prog 54 [.l .nilp, .agg op.row] M fun r M' => r = .agg (Ans.row ⟨1, false, ⟨0, 0⟩, 0, []⟩) ∧ M' = M := by
  refine xcalls_intro (rs := [.cell 4 69]) Go.Proofs.Try.func54 rfl (by kernel_rfl) rfl rfl (by kernel_rfl) (by simp) ?_
  simp -implicitDefEqProofs (maxSteps := 1000000) (disch := omega) only [↓xsP, ↓vc_seq, xsQ, xsT, xsR, xsD, ↓reduceIte, reduceCtorEq, eq_self, ne_eq, imp_self, forall_const, Nat.reduceEqDiff, Nat.reduceAdd, Nat.reduceSub, Nat.reduceMul, Nat.reduceLT, Nat.reduceLeDiff, Nat.reduceBEq, Nat.reduceDiv, Nat.reduceMod, Int.reduceToNat, Int.reduceNeg, Int.reduceAdd, Int.reduceSub, Int.reduceMul, Int.reduceEq, Int.reduceNe, Int.reduceLT, Int.reduceLE, Int.reduceGT, Int.reduceGE]
  refine newI_intro fun p3 hp3 => ?_
  simp -implicitDefEqProofs (maxSteps := 1000000) (disch := omega) only [↓xsP, ↓vc_seq, xsQ, xsT, xsR, xsD, ↓reduceIte, reduceCtorEq, eq_self, ne_eq, imp_self, forall_const, Nat.reduceEqDiff, Nat.reduceAdd, Nat.reduceSub, Nat.reduceMul, Nat.reduceLT, Nat.reduceLeDiff, Nat.reduceBEq, Nat.reduceDiv, Nat.reduceMod, Int.reduceToNat, Int.reduceNeg, Int.reduceAdd, Int.reduceSub, Int.reduceMul, Int.reduceEq, Int.reduceNe, Int.reduceLT, Int.reduceLE, Int.reduceGT, Int.reduceGE]
  refine newI_intro fun p4 hp4' => ?_
  obtain ⟨h34, hp4⟩ := bnd_new hp4'
  simp -implicitDefEqProofs (maxSteps := 1000000) (disch := omega) only [↓xsP, ↓vc_seq, xsQ, xsT, xsR, xsD, ↓reduceIte, reduceCtorEq, eq_self, ne_eq, imp_self, forall_const, Nat.reduceEqDiff, Nat.reduceAdd, Nat.reduceSub, Nat.reduceMul, Nat.reduceLT, Nat.reduceLeDiff, Nat.reduceBEq, Nat.reduceDiv, Nat.reduceMod, Int.reduceToNat, Int.reduceNeg, Int.reduceAdd, Int.reduceSub, Int.reduceMul, Int.reduceEq, Int.reduceNe, Int.reduceLT, Int.reduceLE, Int.reduceGT, Int.reduceGE]
  exact finI_of (XFin.wk (XFin.le (le_new (le_new (Mem.le_refl _) hp3) hp4) ⟨rfl, rfl⟩))

theorem pairs_spec (s : List Pr) (hl : s.length ≤ 1000001) (id : Nat) (M : Mem) (hM : M id = some (mapB s)) :
    XCalls Go.Proofs.Try.prog 34 [.l (.ptr id 0 0)] M fun r M' => r = .l (.sl (s.map Pr.row)) ∧ M' = M := by
  refine xcalls_intro (rs := [.tmp 2]) Go.Proofs.Try.func34 rfl (by kernel_rfl) rfl rfl (by kernel_rfl) (by simp) ?_
  simp -implicitDefEqProofs (maxSteps := 1000000) (disch := omega) only [↓xsP, ↓vc_seq, xsQ, xsT, xsR, xsD, ↓reduceIte, reduceCtorEq, eq_self, ne_eq, imp_self, forall_const, Nat.reduceEqDiff, Nat.reduceAdd, Nat.reduceSub, Nat.reduceMul, Nat.reduceLT, Nat.reduceLeDiff, Nat.reduceBEq, Nat.reduceDiv, Nat.reduceMod, Int.reduceToNat, Int.reduceNeg, Int.reduceAdd, Int.reduceSub, Int.reduceMul, Int.reduceEq, Int.reduceNe, Int.reduceLT, Int.reduceLE, Int.reduceGT, Int.reduceGE, hM, mapB]
  refine call_of (clone_spec s hl M) ?_
  simp -implicitDefEqProofs (maxSteps := 1000000) (disch := omega) only [↓xsP, ↓vc_seq, xsQ, xsT, xsR, xsD, ↓reduceIte, reduceCtorEq, eq_self, ne_eq, imp_self, forall_const, Nat.reduceEqDiff, Nat.reduceAdd, Nat.reduceSub, Nat.reduceMul, Nat.reduceLT, Nat.reduceLeDiff, Nat.reduceBEq, Nat.reduceDiv, Nat.reduceMod, Int.reduceToNat, Int.reduceNeg, Int.reduceAdd, Int.reduceSub, Int.reduceMul, Int.reduceEq, Int.reduceNe, Int.reduceLT, Int.reduceLE, Int.reduceGT, Int.reduceGE]
  exact fin_ok (Mem.le_refl _) ⟨rfl, rfl⟩
theorem pairs_nil (M : Mem) : XCalls Go.Proofs.Try.prog 34 [.l .nilp] M fun r M' => r = .l (.sl []) ∧ M' = M := by
  refine xcalls_intro (rs := [.tmp 2]) Go.Proofs.Try.func34 rfl (by kernel_rfl) rfl rfl (by kernel_rfl) (by simp) ?_
  simp -implicitDefEqProofs (maxSteps := 1000000) (disch := omega) only [↓xsP, ↓vc_seq, xsQ, xsT, xsR, xsD, ↓reduceIte, reduceCtorEq, eq_self, ne_eq, imp_self, forall_const, Nat.reduceEqDiff, Nat.reduceAdd, Nat.reduceSub, Nat.reduceMul, Nat.reduceLT, Nat.reduceLeDiff, Nat.reduceBEq, Nat.reduceDiv, Nat.reduceMod, Int.reduceToNat, Int.reduceNeg, Int.reduceAdd, Int.reduceSub, Int.reduceMul, Int.reduceEq, Int.reduceNe, Int.reduceLT, Int.reduceLE, Int.reduceGT, Int.reduceGE]
  exact finI_of (XFin.wk (XFin.here ⟨rfl, rfl⟩))
def putOp (p : Pr) : Opn := ⟨1, p.key, 0, p.val⟩
noncomputable def putL (l : List Pr) : List Pr := l.foldl (fun s p => doL s (putOp p)) []
theorem putL_snoc (l : List Pr) (p : Pr) : putL (l ++ [p]) = doL (putL l) (putOp p) := by simp [putL, List.foldl_append]
theorem putL_take (l : List Pr) {i : Nat} (hi : i < l.length) : putL (l.take (i + 1)) = doL (putL (l.take i)) (putOp (l.getD i default)) := by
  have : l.take (i + 1) = l.take i ++ [l.getD i default] := by
    rw [List.take_add_one, List.getD_eq_getElem?_getD, List.getElem?_eq_getElem hi]
    rfl
  rw [this, putL_snoc]
theorem putL_len (l : List Pr) : (putL l).length ≤ l.length := by
  have key : ∀ (l s : List Pr), (l.foldl (fun s p => doL s (putOp p)) s).length ≤ s.length + l.length := by
    intro l
    induction l with
    | nil => intro s; simp
    | cons p r ih =>
      intro s
      have h1 := ih (doL s (putOp p))
      have h2 := doL_len s (putOp p)
      simp only [List.foldl_cons, List.length_cons]
      omega
  have := key l []
  rw [putL]
  simpa using this
theorem new_spec (l : List Pr) (hl : l.length ≤ 1000000) (M : Mem) :
    XCalls Go.Proofs.Try.prog 33 [.l (.sl (l.map Pr.row))] M fun r M' => ∃ id, (∀ j, id ≤ j → M j = none) ∧ r = .l (.ptr id 0 0) ∧ M' = M.set id (mapB (putL l)) := by
  refine xcalls_intro (rs := [.tmp 2]) Go.Proofs.Try.func33 rfl (by kernel_rfl) rfl rfl (by kernel_rfl) (by simp) ?_
  simp -implicitDefEqProofs (maxSteps := 1000000) (disch := omega) only [↓xsP, ↓vc_seq, xsQ, xsT, xsR, xsD, ↓reduceIte, reduceCtorEq, eq_self, ne_eq, imp_self, forall_const, Nat.reduceEqDiff, Nat.reduceAdd, Nat.reduceSub, Nat.reduceMul, Nat.reduceLT, Nat.reduceLeDiff, Nat.reduceBEq, Nat.reduceDiv, Nat.reduceMod, Int.reduceToNat, Int.reduceNeg, Int.reduceAdd, Int.reduceSub, Int.reduceMul, Int.reduceEq, Int.reduceNe, Int.reduceLT, Int.reduceLE, Int.reduceGT, Int.reduceGE]
  refine newI_intro fun id hid => ?_
  simp -implicitDefEqProofs (maxSteps := 1000000) (disch := omega) only [↓xsP, ↓vc_seq, xsQ, xsT, xsR, xsD, ↓reduceIte, reduceCtorEq, eq_self, ne_eq, imp_self, forall_const, Nat.reduceEqDiff, Nat.reduceAdd, Nat.reduceSub, Nat.reduceMul, Nat.reduceLT, Nat.reduceLeDiff, Nat.reduceBEq, Nat.reduceDiv, Nat.reduceMod, Int.reduceToNat, Int.reduceNeg, Int.reduceAdd, Int.reduceSub, Int.reduceMul, Int.reduceEq, Int.reduceNe, Int.reduceLT, Int.reduceLE, Int.reduceGT, Int.reduceGE]
  refine loopI_gs (GStep.wk (Mem.set_eq _ _ _)) ?_
  simp -implicitDefEqProofs (maxSteps := 1000000) (disch := omega) only [↓xsP, ↓vc_seq, xsQ, xsT, xsR, xsD, ↓reduceIte, reduceCtorEq, eq_self, ne_eq, imp_self, forall_const, Nat.reduceEqDiff, Nat.reduceAdd, Nat.reduceSub, Nat.reduceMul, Nat.reduceLT, Nat.reduceLeDiff, Nat.reduceBEq, Nat.reduceDiv, Nat.reduceMod, Int.reduceToNat, Int.reduceNeg, Int.reduceAdd, Int.reduceSub, Int.reduceMul, Int.reduceEq, Int.reduceNe, Int.reduceLT, Int.reduceLE, Int.reduceGT, Int.reduceGE]
  refine xloopG (by kernel_rfl) (fun k fr M' => ∃ i : Nat, i ≤ l.length ∧ k = l.length - i ∧ fr 3 = .l (.ptr id 0 0) ∧ fr 8 = .l (.sl (l.map Pr.row)) ∧ fr 9 = .l (.int .i64 l.length) ∧ fr 10 = .l (.int .i64 i) ∧ M' = M.set id (mapB (putL (l.take i)))) l.length ?_ ?_
  · refine ⟨0, Nat.zero_le _, rfl, ?_, ?_, ?_, ?_, ?_⟩
    · simp -implicitDefEqProofs (maxSteps := 1000000) (disch := omega) only [↓xsP, ↓vc_seq, xsQ, xsT, xsR, xsD, ↓reduceIte, reduceCtorEq, eq_self, ne_eq, imp_self, forall_const, Nat.reduceEqDiff, Nat.reduceAdd, Nat.reduceSub, Nat.reduceMul, Nat.reduceLT, Nat.reduceLeDiff, Nat.reduceBEq, Nat.reduceDiv, Nat.reduceMod, Int.reduceToNat, Int.reduceNeg, Int.reduceAdd, Int.reduceSub, Int.reduceMul, Int.reduceEq, Int.reduceNe, Int.reduceLT, Int.reduceLE, Int.reduceGT, Int.reduceGE]
    · simp -implicitDefEqProofs (maxSteps := 1000000) (disch := omega) only [↓xsP, ↓vc_seq, xsQ, xsT, xsR, xsD, ↓reduceIte, reduceCtorEq, eq_self, ne_eq, imp_self, forall_const, Nat.reduceEqDiff, Nat.reduceAdd, Nat.reduceSub, Nat.reduceMul, Nat.reduceLT, Nat.reduceLeDiff, Nat.reduceBEq, Nat.reduceDiv, Nat.reduceMod, Int.reduceToNat, Int.reduceNeg, Int.reduceAdd, Int.reduceSub, Int.reduceMul, Int.reduceEq, Int.reduceNe, Int.reduceLT, Int.reduceLE, Int.reduceGT, Int.reduceGE]
    · simp -implicitDefEqProofs (maxSteps := 1000000) (disch := omega) only [↓xsP, ↓vc_seq, xsQ, xsT, xsR, xsD, ↓reduceIte, reduceCtorEq, eq_self, ne_eq, imp_self, forall_const, Nat.reduceEqDiff, Nat.reduceAdd, Nat.reduceSub, Nat.reduceMul, Nat.reduceLT, Nat.reduceLeDiff, Nat.reduceBEq, Nat.reduceDiv, Nat.reduceMod, Int.reduceToNat, Int.reduceNeg, Int.reduceAdd, Int.reduceSub, Int.reduceMul, Int.reduceEq, Int.reduceNe, Int.reduceLT, Int.reduceLE, Int.reduceGT, Int.reduceGE]
    · simp -implicitDefEqProofs (maxSteps := 1000000) (disch := omega) only [↓xsP, ↓vc_seq, xsQ, xsT, xsR, xsD, ↓reduceIte, reduceCtorEq, eq_self, ne_eq, imp_self, forall_const, Nat.reduceEqDiff, Nat.reduceAdd, Nat.reduceSub, Nat.reduceMul, Nat.reduceLT, Nat.reduceLeDiff, Nat.reduceBEq, Nat.reduceDiv, Nat.reduceMod, Int.reduceToNat, Int.reduceNeg, Int.reduceAdd, Int.reduceSub, Int.reduceMul, Int.reduceEq, Int.reduceNe, Int.reduceLT, Int.reduceLE, Int.reduceGT, Int.reduceGE, Int.ofNat_zero]
    · rw [List.take_zero]
      rfl
  · rintro k fr M' ⟨i, hi, rfl, h3, h8, h9, h10, rfl⟩
    simp -implicitDefEqProofs (maxSteps := 1000000) (disch := omega) only [↓xsP, ↓vc_seq, xsQ, xsT, xsR, xsD, ↓reduceIte, reduceCtorEq, eq_self, ne_eq, imp_self, forall_const, Nat.reduceEqDiff, Nat.reduceAdd, Nat.reduceSub, Nat.reduceMul, Nat.reduceLT, Nat.reduceLeDiff, Nat.reduceBEq, Nat.reduceDiv, Nat.reduceMod, Int.reduceToNat, Int.reduceNeg, Int.reduceAdd, Int.reduceSub, Int.reduceMul, Int.reduceEq, Int.reduceNe, Int.reduceLT, Int.reduceLE, Int.reduceGT, Int.reduceGE, h3, h8, h9, h10]
    refine condI_prop (fun hp => ?_) (fun hp => ?_)
    · have hi' : i < l.length := by omega
      simp -implicitDefEqProofs (maxSteps := 1000000) (disch := omega) only [↓xsP, ↓vc_seq, xsQ, xsT, xsR, xsD, ↓reduceIte, reduceCtorEq, eq_self, ne_eq, imp_self, forall_const, Nat.reduceEqDiff, Nat.reduceAdd, Nat.reduceSub, Nat.reduceMul, Nat.reduceLT, Nat.reduceLeDiff, Nat.reduceBEq, Nat.reduceDiv, Nat.reduceMod, Int.reduceToNat, Int.reduceNeg, Int.reduceAdd, Int.reduceSub, Int.reduceMul, Int.reduceEq, Int.reduceNe, Int.reduceLT, Int.reduceLE, Int.reduceGT, Int.reduceGE, h3, h8, h9, h10]
      refine newI_intro fun p5 hp5 => ?_
      have hg : l[i]? = some (l.getD i default) := by rw [List.getD_eq_getElem?_getD, List.getElem?_eq_getElem hi']; rfl
      generalize hq : l.getD i default = q at hg
      simp -implicitDefEqProofs (maxSteps := 1000000) (disch := omega) only [↓xsP, ↓vc_seq, xsQ, xsT, xsR, xsD, ↓reduceIte, reduceCtorEq, eq_self, ne_eq, imp_self, forall_const, Nat.reduceEqDiff, Nat.reduceAdd, Nat.reduceSub, Nat.reduceMul, Nat.reduceLT, Nat.reduceLeDiff, Nat.reduceBEq, Nat.reduceDiv, Nat.reduceMod, Int.reduceToNat, Int.reduceNeg, Int.reduceAdd, Int.reduceSub, Int.reduceMul, Int.reduceEq, Int.reduceNe, Int.reduceLT, Int.reduceLE, Int.reduceGT, Int.reduceGE, h3, h8, h9, h10, hg]
      refine callI_of ((modelDo_spec (putL (l.take i)) (by have := putL_len (l.take i); rw [List.length_take] at this; omega) (putOp q) id _ ?_).mono ?_)
      · have h5 := lt_of_bnd hp5 (Mem.set_eq _ _ _)
        simp (disch := omega) only [Mem.set_eq, Mem.set_ne]
      · rintro _ _ ⟨rfl, rfl⟩
        have h5 := lt_of_bnd hp5 (Mem.set_eq _ _ _)
        have hpM := (bnd_new hp5).2
        simp -implicitDefEqProofs (maxSteps := 1000000) (disch := omega) only [↓xsP, ↓vc_seq, xsQ, xsT, xsR, xsD, ↓reduceIte, reduceCtorEq, eq_self, ne_eq, imp_self, forall_const, Nat.reduceEqDiff, Nat.reduceAdd, Nat.reduceSub, Nat.reduceMul, Nat.reduceLT, Nat.reduceLeDiff, Nat.reduceBEq, Nat.reduceDiv, Nat.reduceMod, Int.reduceToNat, Int.reduceNeg, Int.reduceAdd, Int.reduceSub, Int.reduceMul, Int.reduceEq, Int.reduceNe, Int.reduceLT, Int.reduceLE, Int.reduceGT, Int.reduceGE, h3, h8, h9, h10]
        refine ⟨_, _, ?_, GStep.le (le_seti (N := _) (b := mapB (putL (l.take (i + 1)))) (M := M) ?_ fun k bk hk h => ?_), i + 1, by omega, rfl, rfl, rfl⟩
        · omega
        · rw [putL_take _ hi', hq, Mem.set_eq]
        · have := lt_of_bnd hid h
          simp (disch := omega) only [Mem.set_ne, h]
    · have hi' : i = l.length := by omega
      subst hi'
      simp -implicitDefEqProofs (maxSteps := 1000000) (disch := omega) only [↓xsP, ↓vc_seq, xsQ, xsT, xsR, xsD, ↓reduceIte, reduceCtorEq, eq_self, ne_eq, imp_self, forall_const, Nat.reduceEqDiff, Nat.reduceAdd, Nat.reduceSub, Nat.reduceMul, Nat.reduceLT, Nat.reduceLeDiff, Nat.reduceBEq, Nat.reduceDiv, Nat.reduceMod, Int.reduceToNat, Int.reduceNeg, Int.reduceAdd, Int.reduceSub, Int.reduceMul, Int.reduceEq, Int.reduceNe, Int.reduceLT, Int.reduceLE, Int.reduceGT, Int.reduceGE, h3]
      refine fin_ok (Mem.le_refl _) ⟨id, hid, rfl, ?_⟩
      rw [List.take_length]

/-- A slice of operations, kept or of a live block. -/
def OpsIs (M : Mem) (s : Lf) (l : List Opn) : Prop := ∃ ido keep, (s = .sl (l.map Opn.row) ∧ True) ∨ (s = .ms ido 0 l.length ∧ M ido = some (.cells 34 (l.map Opn.row) keep))
theorem OpsIs.sl (M : Mem) (l : List Opn) : OpsIs M (.sl (l.map Opn.row)) l := ⟨0, 0, .inl ⟨rfl, trivial⟩⟩
theorem OpsIs.ms {M : Mem} {l : List Opn} {id n keep : Nat} {rows : List (List Lf)} (h : M id = some (.cells 34 rows keep)) (hr : rows = l.map Opn.row) (hn : n = l.length) : OpsIs M (.ms id 0 n) l := ⟨id, keep, .inr ⟨by rw [hn], by rw [h, hr]⟩⟩
noncomputable def runL (s : List Pr) (ops : List Opn) : List Pr := ops.foldl doL s
noncomputable def runA : List Pr → List Opn → List Ans
  | _, [] => []
  | s, op :: r => doA s op :: runA (doL s op) r
theorem runL_snoc (s : List Pr) (l : List Opn) (op : Opn) : runL s (l ++ [op]) = doL (runL s l) op := by simp [runL, List.foldl_append]
theorem runA_snoc (s : List Pr) (l : List Opn) (op : Opn) : runA s (l ++ [op]) = runA s l ++ [doA (runL s l) op] := by
  induction l generalizing s with
  | nil => rfl
  | cons x r ih => 
    show doA s x :: runA (doL s x) (r ++ [op]) = _
    rw [ih]
    rfl
theorem runA_len (s : List Pr) (l : List Opn) : (runA s l).length = l.length := by
  induction l generalizing s with
  | nil => rfl
  | cons x r ih => simp [runA, ih]
theorem take_snoc {α : Type} [Inhabited α] (l : List α) {i : Nat} (hi : i < l.length) : l.take (i + 1) = l.take i ++ [l.getD i default] := by
  rw [List.take_add_one, List.getD_eq_getElem?_getD, List.getElem?_eq_getElem hi]
  rfl
theorem runL_len (s : List Pr) (l : List Opn) : (runL s l).length ≤ s.length + l.length := by
  induction l generalizing s with
  | nil => simp [runL]
  | cons x r ih =>
    have h1 := ih (doL s x)
    have h2 := doL_len s x
    have h3 : runL s (x :: r) = runL (doL s x) r := rfl
    rw [h3]
    simp only [List.length_cons]
    omega
theorem le_seti2 {M N : Mem} {id id2 : Nat} {b b2 : Blk} (h1 : N id = some b) (h1' : N id2 = some b2) (h2 : ∀ k bk, k ≠ id → k ≠ id2 → M k = some bk → N k = some bk) : ((M.set id b).set id2 b2).le N := by
  intro k bk hk
  rw [Mem.set_app] at hk
  by_cases e : id2 = k
  · rw [if_pos e] at hk
    rw [← e, h1']
    exact hk
  · rw [if_neg e, Mem.set_app] at hk
    by_cases e' : id = k
    · rw [if_pos e'] at hk
      rw [← e', h1]
      exact hk
    · rw [if_neg e'] at hk
      exact h2 k bk (fun h => e' h.symm) (fun h => e h.symm) hk

def aw16 : List Pr := [⟨1, 5⟩]
def aw16o : List Opn := [⟨1, 1, 0, 6⟩, ⟨4, 1, 0, 0⟩]
theorem asc1 (p : Pr) : Asc [p] := by simp [Asc]
theorem aw16_put : putL aw16 = [⟨1, 5⟩] := by
  show doL [] ⟨1, 1, 0, 5⟩ = _
  rw [doL_upd (by simp [Asc]) (by decide) (by decide)]
  decide
theorem aw16_l : runL (putL aw16) aw16o = [⟨1, 6⟩] := by
  rw [aw16_put]
  show doL (doL [⟨1, 5⟩] ⟨1, 1, 0, 6⟩) ⟨4, 1, 0, 0⟩ = _
  rw [doL_read (by decide), doL_upd (asc1 _) (by decide) (by decide)]
  decide
theorem aw16_a : runA (putL aw16) aw16o = [⟨0, true, ⟨1, 5⟩, 0, []⟩, ⟨0, true, ⟨1, 6⟩, 0, []⟩] := by
  rw [aw16_put]
  show [doA [⟨1, 5⟩] ⟨1, 1, 0, 6⟩, doA (doL [⟨1, 5⟩] ⟨1, 1, 0, 6⟩) ⟨4, 1, 0, 0⟩] = _
  have e : doL [⟨1, 5⟩] ⟨1, 1, 0, 6⟩ = [⟨1, 6⟩] := by
    rw [doL_upd (asc1 _) (by decide) (by decide)]
    decide
  rw [e, doA_one (asc1 _) (by decide) (by decide), doA_one (asc1 _) (by decide) (by decide)]
  decide
end Go.X

/- Plain laws of maps made of pairs. -/

set_option linter.unusedVariables false
namespace Go.X

theorem putL_asc (l : List Pr) : Asc (putL l) := by
  have key : ∀ (l s : List Pr), Asc s → Asc (l.foldl (fun s p => doL s (putOp p)) s) := by
    intro l
    induction l with
    | nil => intro s h; exact h
    | cons p r ih => intro s h; exact ih _ (doL_asc _ h)
  exact key l [] (by simp [Asc])
theorem put_look {s : List Pr} (h : Asc s) (p : Pr) (k : Int) : look (doL s (putOp p)) k = if k = p.key then some p.val else look s k := by
  rw [doL_look h (by simp [mayOpB, putOp]) (by simp [putOp]), upd1.eq_def]
  simp [putOp]
/-- The last value of a key. -/
def lastV (k : Int) (o : Option Int) (l : List Pr) : Option Int := l.foldl (fun o p => if k = p.key then some p.val else o) o
theorem puts_look (k : Int) : ∀ (l s : List Pr), Asc s → look (l.foldl (fun s p => doL s (putOp p)) s) k = lastV k (look s k) l
  | [], s, _ => rfl
  | p :: r, s, h => by
    rw [List.foldl_cons, puts_look k r _ (doL_asc _ h), put_look h]
    rfl
theorem putL_look (l : List Pr) (k : Int) : look (putL l) k = lastV k none l := puts_look k l [] (by simp [Asc])
theorem look_mem {l : List Pr} {p : Pr} (h : p ∈ l) : ∃ v, look l p.key = some v := by
  induction l with
  | nil => cases h
  | cons x r ih =>
    rw [look]
    by_cases e : x.key = p.key
    · exact ⟨x.val, if_pos e⟩
    · rw [if_neg e]
      rcases List.mem_cons.1 h with rfl | h'
      · exact absurd rfl e
      · exact ih h'
theorem lastV_key {k v : Int} : ∀ {l : List Pr} {o : Option Int}, lastV k o l = some v → o = some v ∨ ∃ p ∈ l, p.key = k
  | [], o, h => .inl h
  | p :: r, o, h => by
    rw [lastV, List.foldl_cons] at h
    rcases lastV_key (l := r) h with h' | ⟨q, hq, e⟩
    · by_cases e : k = p.key
      · exact .inr ⟨p, by simp, e.symm⟩
      · rw [if_neg e] at h'
        exact .inl h'
    · exact .inr ⟨q, by simp [hq], e⟩
theorem putL_keys {Q : Int → Prop} (l : List Pr) (h : ∀ p ∈ l, Q p.key) : ∀ p ∈ putL l, Q p.key := fun p hp => by
  obtain ⟨v, hv⟩ := look_mem hp
  rw [putL_look] at hv
  rcases lastV_key hv with h' | ⟨q, hq, e⟩
  · cases h'
  · rw [← e]
    exact h q hq
end Go.X

/- More arguments: an answer, a pair, operations; pairs whose keys are within int's bounds. -/

set_option linter.unusedVariables false
set_option linter.unusedSimpArgs false
namespace Go.X
open Go.Proofs.Try (prog)
open Go.RowKit Go.ChangeShapes Go.WideShapes Go.ChangeAt

def IntOk (n : Int) : Prop := -9223372036854775808 ≤ n ∧ n ≤ 9223372036854775807
def IsIr (ls : List Lf) : Prop := ∃ n, ls = [.int .i64 n] ∧ IntOk n
theorem o_ir {t : TypeId} (ht : Go.Proofs.Try.prog.underlying t = some (.int .i64)) : Opens Go.Proofs.Try.prog t IsIr := (opens_int ht).mono fun ls ⟨n, h, hwf⟩ => ⟨n, h, by
  simp [Lit.wf, IntKind.min, IntKind.max, IntKind.bits, IntKind.signed] at hwf
  unfold IntOk
  omega⟩
theorem o_prr : Opens Go.Proofs.Try.prog 38 fun ls => ∃ p : Pr, ls = p.row ∧ IntOk p.key := by
  refine (opens_tys (ts := [3, 3]) (by kernel_rfl) [IsIr, IsI] ⟨o_ir (by kernel_rfl), o_i (by kernel_rfl), trivial⟩).mono ?_
  rintro ls ⟨a, b, rfl, ⟨x, rfl, hx⟩, c, d, rfl, ⟨y, rfl⟩, rfl⟩
  exact ⟨⟨x, y⟩, rfl, hx⟩
theorem o_prsr : Opens Go.Proofs.Try.prog 24 fun ls => ∃ ps : List Pr, ls = [.sl (ps.map Pr.row)] ∧ ps.length ≤ big ∧ ∀ p ∈ ps, IntOk p.key := by
  refine (opens_slice (by kernel_rfl) o_prr (of_decide_eq_true (by kernel_rfl))).mono ?_
  rintro ls ⟨rows, rfl, hr, hb⟩
  obtain ⟨ps, rfl, h2⟩ := rows_map hr
  exact ⟨ps, rfl, by simpa using len_of (of_decide_eq_true (by kernel_rfl)) hb, h2⟩
theorem o_ops : Opens Go.Proofs.Try.prog 32 fun ls => ∃ os : List Opn, ls = [.sl (os.map Opn.row)] ∧ os.length ≤ big := by
  refine (opens_slice (by kernel_rfl) (o_op.mono fun ls ⟨o, h⟩ => (⟨o, h, trivial⟩ : ∃ o : Opn, ls = o.row ∧ True)) (of_decide_eq_true (by kernel_rfl))).mono ?_
  rintro ls ⟨rows, rfl, hr, hb⟩
  obtain ⟨ps, rfl, _⟩ := rows_map hr
  exact ⟨ps, rfl, by simpa using len_of (of_decide_eq_true (by kernel_rfl)) hb⟩
section
variable {H : Type} {enc : TypeId × Value → H} {W : World} {base : Nat} {v : Value} {d : DataW H} {p : List MemPlace}
theorem arg_prsr (hok : Value.okWide Go.Proofs.Try.prog W .any base 24 v) (h : DataW.Trod enc Go.Proofs.Try.prog W 0 (fun _ => true) true 24 v d p) (hw : ∀ n ∈ d.weights Go.Proofs.Try.prog 24, n ≤ reachBytes) :
    ∃ l : List Pr, ConcA (g0 Go.Proofs.Try.prog W) W (.l (.sl (l.map Pr.row))) v ∧ l.length ≤ big ∧ ∀ p ∈ l, IntOk p.key := by
  obtain ⟨x, h1, l, rfl, h2⟩ := arg_l (R := fun x => ∃ h : List Pr, x = .sl (h.map Pr.row) ∧ h.length ≤ big ∧ ∀ p ∈ h, IntOk p.key) (e := 38) (by kernel_rfl) (o_prsr.mono fun ls ⟨l, h3, h4⟩ => ⟨_, h3, l, rfl, h4⟩) hok h hw
  exact ⟨l, h1, h2⟩
theorem arg_ops (hok : Value.okWide Go.Proofs.Try.prog W .any base 32 v) (h : DataW.Trod enc Go.Proofs.Try.prog W 0 (fun _ => true) true 32 v d p) (hw : ∀ n ∈ d.weights Go.Proofs.Try.prog 32, n ≤ reachBytes) :
    ∃ l : List Opn, ConcA (g0 Go.Proofs.Try.prog W) W (.l (.sl (l.map Opn.row))) v ∧ l.length ≤ big := by
  obtain ⟨x, h1, l, rfl, h2⟩ := arg_l (R := fun x => ∃ h : List Opn, x = .sl (h.map Opn.row) ∧ h.length ≤ big) (e := 34) (by kernel_rfl) (o_ops.mono fun ls ⟨l, h3, h4⟩ => ⟨_, h3, l, rfl, h4⟩) hok h hw
  exact ⟨l, h1, h2⟩
theorem arg_ans (hok : Value.okWide Go.Proofs.Try.prog W .any base 69 v) (h : DataW.Trod enc Go.Proofs.Try.prog W 0 (fun _ => true) true 69 v d p) (hw : ∀ n ∈ d.weights Go.Proofs.Try.prog 69, n ≤ reachBytes) :
    ∃ a : Ans, ConcA (g0 Go.Proofs.Try.prog W) W (.agg a.row) v ∧ a.pairs.length ≤ big := by
  obtain ⟨fs, hu⟩ : ∃ fs, Go.Proofs.Try.prog.underlying 69 = some (.struct fs) := struct_of (by kernel_rfl)
  obtain ⟨ls, h1, o, rfl, h2⟩ := arg_agg hu o_ans hok h hw
  exact ⟨o, h1, h2⟩
theorem arg_pr (hok : Value.okWide Go.Proofs.Try.prog W .any base 38 v) (h : DataW.Trod enc Go.Proofs.Try.prog W 0 (fun _ => true) true 38 v d p) (hw : ∀ n ∈ d.weights Go.Proofs.Try.prog 38, n ≤ reachBytes) :
    ∃ o : Pr, ConcA (g0 Go.Proofs.Try.prog W) W (.agg o.row) v := by
  obtain ⟨fs, hu⟩ : ∃ fs, Go.Proofs.Try.prog.underlying 38 = some (.struct fs) := struct_of (by kernel_rfl)
  obtain ⟨ls, h1, o, rfl, _⟩ := arg_agg hu o_pr hok h hw
  exact ⟨o, h1⟩
end
end Go.X

/- What the reference's functions on pairs do: With, Without, Between, Find. -/

set_option linter.unusedVariables false
set_option linter.unusedSimpArgs false
set_option maxHeartbeats 20000000
set_option maxRecDepth 100000
namespace Go.X
open Go.Proofs.Try (prog)

/-- A row of pairs that is being made by append: its slice and the memory. -/
def OutP (M : Mem) (v : AV) (M' : Mem) (rows : List Pr) : Prop :=
  (rows = [] ∧ v = .l .nils ∧ M' = M) ∨ ∃ idO, (∀ j, idO ≤ j → M j = none) ∧ v = .l (.ms idO 0 rows.length) ∧ M' = M.set idO (.cells 38 (rows.map Pr.row) 0)
theorem OutP.nil (M : Mem) : OutP M (.l .nils) M [] := .inl ⟨rfl, rfl, rfl⟩
theorem OutP.base {M M' : Mem} {v : AV} {rows : List Pr} (h : OutP M v M' rows) : M.le M' := by
  rcases h with ⟨_, _, rfl⟩ | ⟨idO, hO, _, rfl⟩
  · exact Mem.le_refl _
  · exact le_new (Mem.le_refl _) hO
theorem le_none {M N : Mem} (h : M.le N) {n : Nat} (hn : ∀ j, n ≤ j → N j = none) : ∀ j, n ≤ j → M j = none := fun j hj => by
  cases hq : M j with
  | none => rfl
  | some b => have := h _ _ hq; rw [hn j hj] at this; cases this
theorem OutP.val {M M' : Mem} {v : AV} {rows : List Pr} (h : OutP M v M' rows) : ∃ s, v = .l s := by
  rcases h with ⟨_, rfl, _⟩ | ⟨idO, _, rfl, _⟩
  · exact ⟨_, rfl⟩
  · exact ⟨_, rfl⟩
theorem app_out {M M' N : Mem} {v : AV} {rows : List Pr} {p : Pr} {pb : Nat} (h : OutP M v M' rows) (hle : M'.le N) (hb : ∀ j, pb ≤ j → N j = none) (hlen : rows.length ≤ 1000001) {K : AV → Mem → Prop}
    (hc : ∀ v' N' M2, OutP M v' M2 (rows ++ [p]) → M2.le N' → (∀ k bk, N k = some bk → M' k = none → N' k = some bk) → K v' N') :
    @appI Go.Proofs.Try.prog (N.set pb (.cells 38 [p.row] 0)) 24 24 v (.l (.ms pb 0 1)) ⟨K⟩ := by
  have hMM := h.base
  rcases h with ⟨rfl, rfl, rfl⟩ | ⟨idO, hO, rfl, rfl⟩
  · refine app_nils _ _ _ _ 38 _ _ ti_24 rfl ti_38 (by kernel_rfl) (by decide) _ [p.row] ?_ ?_ ?_ ?_ ?_
    · simp -implicitDefEqProofs (maxSteps := 1000000) (disch := omega) only [↓xsP, ↓vc_seq, xsQ, xsT, xsR, xsD, ↓reduceIte, reduceCtorEq, eq_self, ne_eq, imp_self, forall_const, Nat.reduceEqDiff, Nat.reduceAdd, Nat.reduceSub, Nat.reduceMul, Nat.reduceLT, Nat.reduceLeDiff, Nat.reduceBEq, Nat.reduceDiv, Nat.reduceMod, Int.reduceToNat, Int.reduceNeg, Int.reduceAdd, Int.reduceSub, Int.reduceMul, Int.reduceEq, Int.reduceNe, Int.reduceLT, Int.reduceLE, Int.reduceGT, Int.reduceGE]
    · simp
    · simp
    · simp
    · intro _ idA hidA
      obtain ⟨hbA, hA⟩ := bnd_new hidA
      have hM := le_none hle hA
      refine hc _ _ _ (.inr ⟨idA, hM, rfl, rfl⟩) (le_seti (Mem.set_eq _ _ _) fun k bk hk hh => ?_) fun k bk hk _ => ?_
      · have h1 := hle _ _ hh
        have := lt_of_bnd hb h1
        have := lt_of_bnd hA h1
        rw [Mem.set_ne _ _ _ _ (by omega), Mem.set_ne _ _ _ _ (by omega)]
        exact h1
      · have := lt_of_bnd hb hk
        have := lt_of_bnd hA hk
        rw [Mem.set_ne _ _ _ _ (by omega), Mem.set_ne _ _ _ _ (by omega)]
        exact hk
  · have hNO : N idO = some (.cells 38 (rows.map Pr.row) 0) := hle _ _ (Mem.set_eq _ _ _)
    have hOb := lt_of_bnd hb hNO
    refine app_ms _ _ _ _ 38 _ _ ti_24 rfl ti_38 (by kernel_rfl) (by decide) idO rows.length _ (rows := rows.map Pr.row) (keep := 0) [p.row] ?_ ?_ ?_ (Nat.zero_le _) ?_ ?_ ?_
    · rw [Mem.set_ne _ _ _ _ (by omega)]; exact hNO
    · simp -implicitDefEqProofs (maxSteps := 1000000) (disch := omega) only [↓xsP, ↓vc_seq, xsQ, xsT, xsR, xsD, ↓reduceIte, reduceCtorEq, eq_self, ne_eq, imp_self, forall_const, Nat.reduceEqDiff, Nat.reduceAdd, Nat.reduceSub, Nat.reduceMul, Nat.reduceLT, Nat.reduceLeDiff, Nat.reduceBEq, Nat.reduceDiv, Nat.reduceMod, Int.reduceToNat, Int.reduceNeg, Int.reduceAdd, Int.reduceSub, Int.reduceMul, Int.reduceEq, Int.reduceNe, Int.reduceLT, Int.reduceLE, Int.reduceGT, Int.reduceGE]
    · simp
    · exact Nat.le_trans (Nat.mul_le_mul_right _ (show rows.length + [p.row].length ≤ 1000002 by simp; omega)) (by decide)
    · simp
      omega
    · intro idA hidA
      obtain ⟨hbA, hA⟩ := bnd_new hidA
      have hM := le_none hMM (le_none hle hA)
      have hOA := lt_of_bnd hA hNO
      refine hc _ _ _ (.inr ⟨idA, hM, by simp, rfl⟩) (le_seti ?_ fun k bk hk hh => ?_) fun k bk hk hn => ?_
      · rw [Mem.set_eq, List.take_of_length_le (by simp), List.map_append]
        rfl
      · have h0 := lt_of_bnd hO hh
        have h1 := hle _ _ (hMM _ _ hh)
        have := lt_of_bnd hb h1
        have := lt_of_bnd hA h1
        rw [Mem.set_ne _ _ _ _ (by omega), Mem.del_ne _ _ _ (by omega), Mem.set_ne _ _ _ _ (by omega)]
        exact h1
      · have hne : idO ≠ k := fun e => by subst e; rw [Mem.set_eq] at hn; cases hn
        have := lt_of_bnd hb hk
        have := lt_of_bnd hA hk
        rw [Mem.set_ne _ _ _ _ (by omega), Mem.del_ne _ _ _ hne, Mem.set_ne _ _ _ _ (by omega)]
        exact hk
theorem fin_out {M M' N : Mem} {v : AV} {rows : List Pr} {K : AV → Mem → Prop} (h : OutP M v M' rows) (hle : M'.le N) {M0 : Mem} (h0 : M0.le M) (hK : K (.l (.sl (rows.map Pr.row))) M0) : @finI Go.Proofs.Try.prog v N ⟨K⟩ := by
  refine finI_of ?_
  rcases h with ⟨rfl, rfl, rfl⟩ | ⟨idO, hO, rfl, rfl⟩
  · exact XFin.wk (XFin.le (fun k bk hk => hle _ _ (h0 _ _ hk)) hK)
  · refine XFin.frz idO (hle _ _ (Mem.set_eq _ _ _)) (XFin.le (fun k bk hk => ?_) (M' := M0) ?_)
    · have hk' := h0 _ _ hk
      have := lt_of_bnd hO hk'
      rw [Mem.set_ne _ _ _ _ (by omega)]
      exact hle _ _ (le_new (Mem.le_refl _) hO _ _ hk')
    · have e : frzA idO (rows.map Pr.row) (.l (.ms idO 0 rows.length)) = .l (.sl (rows.map Pr.row)) := by simp [frzA, frz1, frzL, List.take_of_length_le]
      rw [e]
      exact hK

theorem filter_take {q : Pr → Bool} {l : List Pr} {i : Nat} (hi : i < l.length) : (l.take (i + 1)).filter q = if q (l.getD i default) then (l.take i).filter q ++ [l.getD i default] else (l.take i).filter q := by
  rw [take_snoc l hi, List.filter_append]
  generalize l.getD i default = x
  cases h : q x
  · rw [List.filter_cons, h]; simp
  · rw [List.filter_cons, h]; simp
theorem filter_take_len (q : Pr → Bool) (l : List Pr) (i : Nat) : ((l.take i).filter q).length ≤ l.length := by
  have h1 := List.length_filter_le q (l.take i)
  rw [List.length_take] at h1
  omega

theorem rng_filter (l : List Pr) (lo hi : Int) : rng l lo hi = l.filter fun p => decide (lo ≤ p.key ∧ p.key ≤ hi) := by
  rw [rng, stays]
  refine List.filter_congr fun p _ => ?_
  by_cases h1 : p.key < lo
  · have h2 : ¬ (lo ≤ p.key ∧ p.key ≤ hi) := by omega
    simp [outside, h1, h2]
  · by_cases h3 : p.key > hi
    · have h2 : ¬ (lo ≤ p.key ∧ p.key ≤ hi) := by omega
      simp [outside, h1, h3, h2]
    · have h2 : lo ≤ p.key ∧ p.key ≤ hi := by omega
      simp [outside, h1, h3, h2]
/-- With, step by step. -/
def wst (p : Pr) (s : List Pr × Bool) (x : Pr) : List Pr × Bool :=
  let s1 := if s.2 = false ∧ x.key ≥ p.key then (s.1 ++ [p], true) else s
  (if x.key ≠ p.key then s1.1 ++ [x] else s1.1, s1.2)
def wrun (p : Pr) (l : List Pr) : List Pr × Bool := l.foldl (wst p) ([], false)
def withR (l : List Pr) (p : Pr) : List Pr := if (wrun p l).2 then (wrun p l).1 else (wrun p l).1 ++ [p]
theorem wrun_take {p : Pr} {l : List Pr} {i : Nat} (hi : i < l.length) : wrun p (l.take (i + 1)) = wst p (wrun p (l.take i)) (l.getD i default) := by
  rw [take_snoc l hi, wrun, List.foldl_append]
  rfl
theorem wst_len (p : Pr) (s : List Pr × Bool) (x : Pr) : (wst p s x).1.length + (!(wst p s x).2).toNat ≤ s.1.length + (!s.2).toNat + 1 := by
  obtain ⟨o, d⟩ := s
  cases d <;> simp only [wst] <;> (repeat' split) <;> simp_all
theorem wrun_len (p : Pr) (l : List Pr) : (wrun p l).1.length + (!(wrun p l).2).toNat ≤ l.length + 1 := by
  have key : ∀ (l : List Pr) (s : List Pr × Bool), (l.foldl (wst p) s).1.length + (!(l.foldl (wst p) s).2).toNat ≤ s.1.length + (!s.2).toNat + l.length := by
    intro l
    induction l with
    | nil => intro s; simp
    | cons x r ih =>
      intro s
      have h1 := ih (wst p s x)
      have h2 := wst_len p s x
      simp only [List.foldl_cons, List.length_cons]
      omega
  have := key l ([], false)
  simp only [List.length_nil, Bool.not_false, Bool.toNat_true] at this
  rw [wrun]
  omega
theorem withR_spec (l : List Pr) (hl : l.length ≤ 1000000) (p : Pr) (M : Mem) :
    XCalls Go.Proofs.Try.prog 44 [.l (.sl (l.map Pr.row)), .agg p.row] M fun r M' => r = .l (.sl ((withR l p).map Pr.row)) ∧ M' = M := by
  refine xcalls_intro (rs := [.tmp 4]) Go.Proofs.Try.func44 rfl (by kernel_rfl) rfl rfl (by kernel_rfl) (by simp) ?_
  simp -implicitDefEqProofs (maxSteps := 1000000) (disch := omega) only [↓xsP, ↓vc_seq, xsQ, xsT, xsR, xsD, ↓reduceIte, reduceCtorEq, eq_self, ne_eq, imp_self, forall_const, Nat.reduceEqDiff, Nat.reduceAdd, Nat.reduceSub, Nat.reduceMul, Nat.reduceLT, Nat.reduceLeDiff, Nat.reduceBEq, Nat.reduceDiv, Nat.reduceMod, Int.reduceToNat, Int.reduceNeg, Int.reduceAdd, Int.reduceSub, Int.reduceMul, Int.reduceEq, Int.reduceNe, Int.reduceLT, Int.reduceLE, Int.reduceGT, Int.reduceGE]
  refine newI_intro fun p3 hp3 => ?_
  have hM3 := Mem.set_eq M p3 (.cells 38 [p.row] 0)
  have hMN := le_new (b := .cells 38 [p.row] 0) (Mem.le_refl M) hp3
  simp only [Pr.row] at hM3 hMN
  simp -implicitDefEqProofs (maxSteps := 1000000) (disch := omega) only [↓xsP, ↓vc_seq, xsQ, xsT, xsR, xsD, ↓reduceIte, reduceCtorEq, eq_self, ne_eq, imp_self, forall_const, Nat.reduceEqDiff, Nat.reduceAdd, Nat.reduceSub, Nat.reduceMul, Nat.reduceLT, Nat.reduceLeDiff, Nat.reduceBEq, Nat.reduceDiv, Nat.reduceMod, Int.reduceToNat, Int.reduceNeg, Int.reduceAdd, Int.reduceSub, Int.reduceMul, Int.reduceEq, Int.reduceNe, Int.reduceLT, Int.reduceLE, Int.reduceGT, Int.reduceGE]
  generalize M.set p3 _ = N at hM3 hMN ⊢
  refine loopI_of (xloop (by kernel_rfl) (fun k fr M' => ∃ i : Nat, i ≤ l.length ∧ k = l.length - i ∧ fr 3 = .l (.ptr p3 0 0) ∧ fr 6 = .l (.bool (wrun p (l.take i)).2) ∧ fr 9 = .l (.sl (l.map Pr.row)) ∧ fr 10 = .l (.int .i64 l.length) ∧ fr 11 = .l (.int .i64 i) ∧ OutP N (fr 5) M' (wrun p (l.take i)).1) l.length ?_ ?_)
  · refine ⟨0, Nat.zero_le _, rfl, by simp -implicitDefEqProofs (maxSteps := 1000000) (disch := omega) only [↓xsP, ↓vc_seq, xsQ, xsT, xsR, xsD, ↓reduceIte, reduceCtorEq, eq_self, ne_eq, imp_self, forall_const, Nat.reduceEqDiff, Nat.reduceAdd, Nat.reduceSub, Nat.reduceMul, Nat.reduceLT, Nat.reduceLeDiff, Nat.reduceBEq, Nat.reduceDiv, Nat.reduceMod, Int.reduceToNat, Int.reduceNeg, Int.reduceAdd, Int.reduceSub, Int.reduceMul, Int.reduceEq, Int.reduceNe, Int.reduceLT, Int.reduceLE, Int.reduceGT, Int.reduceGE], by simp -implicitDefEqProofs (maxSteps := 1000000) (disch := omega) only [↓xsP, ↓vc_seq, xsQ, xsT, xsR, xsD, ↓reduceIte, reduceCtorEq, eq_self, ne_eq, imp_self, forall_const, Nat.reduceEqDiff, Nat.reduceAdd, Nat.reduceSub, Nat.reduceMul, Nat.reduceLT, Nat.reduceLeDiff, Nat.reduceBEq, Nat.reduceDiv, Nat.reduceMod, Int.reduceToNat, Int.reduceNeg, Int.reduceAdd, Int.reduceSub, Int.reduceMul, Int.reduceEq, Int.reduceNe, Int.reduceLT, Int.reduceLE, Int.reduceGT, Int.reduceGE]; rfl, by simp -implicitDefEqProofs (maxSteps := 1000000) (disch := omega) only [↓xsP, ↓vc_seq, xsQ, xsT, xsR, xsD, ↓reduceIte, reduceCtorEq, eq_self, ne_eq, imp_self, forall_const, Nat.reduceEqDiff, Nat.reduceAdd, Nat.reduceSub, Nat.reduceMul, Nat.reduceLT, Nat.reduceLeDiff, Nat.reduceBEq, Nat.reduceDiv, Nat.reduceMod, Int.reduceToNat, Int.reduceNeg, Int.reduceAdd, Int.reduceSub, Int.reduceMul, Int.reduceEq, Int.reduceNe, Int.reduceLT, Int.reduceLE, Int.reduceGT, Int.reduceGE], by simp -implicitDefEqProofs (maxSteps := 1000000) (disch := omega) only [↓xsP, ↓vc_seq, xsQ, xsT, xsR, xsD, ↓reduceIte, reduceCtorEq, eq_self, ne_eq, imp_self, forall_const, Nat.reduceEqDiff, Nat.reduceAdd, Nat.reduceSub, Nat.reduceMul, Nat.reduceLT, Nat.reduceLeDiff, Nat.reduceBEq, Nat.reduceDiv, Nat.reduceMod, Int.reduceToNat, Int.reduceNeg, Int.reduceAdd, Int.reduceSub, Int.reduceMul, Int.reduceEq, Int.reduceNe, Int.reduceLT, Int.reduceLE, Int.reduceGT, Int.reduceGE], by simp -implicitDefEqProofs (maxSteps := 1000000) (disch := omega) only [↓xsP, ↓vc_seq, xsQ, xsT, xsR, xsD, ↓reduceIte, reduceCtorEq, eq_self, ne_eq, imp_self, forall_const, Nat.reduceEqDiff, Nat.reduceAdd, Nat.reduceSub, Nat.reduceMul, Nat.reduceLT, Nat.reduceLeDiff, Nat.reduceBEq, Nat.reduceDiv, Nat.reduceMod, Int.reduceToNat, Int.reduceNeg, Int.reduceAdd, Int.reduceSub, Int.reduceMul, Int.reduceEq, Int.reduceNe, Int.reduceLT, Int.reduceLE, Int.reduceGT, Int.reduceGE, Int.cast_ofNat_Int], ?_⟩
    simp -implicitDefEqProofs (maxSteps := 1000000) (disch := omega) only [↓xsP, ↓vc_seq, xsQ, xsT, xsR, xsD, ↓reduceIte, reduceCtorEq, eq_self, ne_eq, imp_self, forall_const, Nat.reduceEqDiff, Nat.reduceAdd, Nat.reduceSub, Nat.reduceMul, Nat.reduceLT, Nat.reduceLeDiff, Nat.reduceBEq, Nat.reduceDiv, Nat.reduceMod, Int.reduceToNat, Int.reduceNeg, Int.reduceAdd, Int.reduceSub, Int.reduceMul, Int.reduceEq, Int.reduceNe, Int.reduceLT, Int.reduceLE, Int.reduceGT, Int.reduceGE]
    exact OutP.nil N
  · rintro k fr M' ⟨i, hi, rfl, h3, h6, h9, h10, h11, hO⟩
    obtain ⟨s5, h5⟩ := hO.val
    rw [h5] at hO
    have hM3' := hO.base _ _ hM3
    simp -implicitDefEqProofs (maxSteps := 1000000) (disch := omega) only [↓xsP, ↓vc_seq, xsQ, xsT, xsR, xsD, ↓reduceIte, reduceCtorEq, eq_self, ne_eq, imp_self, forall_const, Nat.reduceEqDiff, Nat.reduceAdd, Nat.reduceSub, Nat.reduceMul, Nat.reduceLT, Nat.reduceLeDiff, Nat.reduceBEq, Nat.reduceDiv, Nat.reduceMod, Int.reduceToNat, Int.reduceNeg, Int.reduceAdd, Int.reduceSub, Int.reduceMul, Int.reduceEq, Int.reduceNe, Int.reduceLT, Int.reduceLE, Int.reduceGT, Int.reduceGE, h5, h3, h6, h9, h10, h11]
    refine condI_prop (fun hlt => ?_) (fun hlt => ?_)
    · have hi' : i < l.length := by omega
      have hwt := wrun_take (p := p) hi'
      have hwl := wrun_len p (l.take i)
      rw [List.length_take] at hwl
      obtain ⟨q, hq⟩ : ∃ q, l.getD i default = q := ⟨_, rfl⟩
      rw [hq] at hwt
      generalize wrun p (l.take i) = s at hwt hwl hO h6
      obtain ⟨o, d⟩ := s
      simp only at hwl hO h6
      simp -implicitDefEqProofs (maxSteps := 1000000) (disch := omega) only [↓xsP, ↓vc_seq, xsQ, xsT, xsR, xsD, ↓reduceIte, reduceCtorEq, eq_self, ne_eq, imp_self, forall_const, Nat.reduceEqDiff, Nat.reduceAdd, Nat.reduceSub, Nat.reduceMul, Nat.reduceLT, Nat.reduceLeDiff, Nat.reduceBEq, Nat.reduceDiv, Nat.reduceMod, Int.reduceToNat, Int.reduceNeg, Int.reduceAdd, Int.reduceSub, Int.reduceMul, Int.reduceEq, Int.reduceNe, Int.reduceLT, Int.reduceLE, Int.reduceGT, Int.reduceGE, h5, h3, h6, h9, h10, h11, hq]
      refine newI_intro fun p8 hp8 => ?_
      have h38 := lt_of_bnd hp8 hM3'
      simp -implicitDefEqProofs (maxSteps := 1000000) (disch := omega) only [↓xsP, ↓vc_seq, xsQ, xsT, xsR, xsD, ↓reduceIte, reduceCtorEq, eq_self, ne_eq, imp_self, forall_const, Nat.reduceEqDiff, Nat.reduceAdd, Nat.reduceSub, Nat.reduceMul, Nat.reduceLT, Nat.reduceLeDiff, Nat.reduceBEq, Nat.reduceDiv, Nat.reduceMod, Int.reduceToNat, Int.reduceNeg, Int.reduceAdd, Int.reduceSub, Int.reduceMul, Int.reduceEq, Int.reduceNe, Int.reduceLT, Int.reduceLE, Int.reduceGT, Int.reduceGE, h5, h3, h6, h9, h10, h11, hq, hM3']
      have hle8 : ∀ b, M'.le (M'.set p8 b) := fun b => le_new (Mem.le_refl _) hp8
      have hn8 : M' p8 = none := hp8 _ (Nat.le_refl _)
      -- the second half of a round
      cases d with
      | true =>
        have hw1 : wst p (o, true) q = (if q.key ≠ p.key then o ++ [q] else o, true) := by simp [wst]
        rw [hw1] at hwt
        simp -implicitDefEqProofs (maxSteps := 1000000) (disch := omega) only [↓xsP, ↓vc_seq, xsQ, xsT, xsR, xsD, ↓reduceIte, reduceCtorEq, eq_self, ne_eq, imp_self, forall_const, Nat.reduceEqDiff, Nat.reduceAdd, Nat.reduceSub, Nat.reduceMul, Nat.reduceLT, Nat.reduceLeDiff, Nat.reduceBEq, Nat.reduceDiv, Nat.reduceMod, Int.reduceToNat, Int.reduceNeg, Int.reduceAdd, Int.reduceSub, Int.reduceMul, Int.reduceEq, Int.reduceNe, Int.reduceLT, Int.reduceLE, Int.reduceGT, Int.reduceGE, h5, h3, h6, h9, h10, h11, hq, hM3']
        refine condI_prop (fun hk => ?_) (fun hk => ?_)
        · rw [if_pos hk] at hwt
          simp -implicitDefEqProofs (maxSteps := 1000000) (disch := omega) only [↓xsP, ↓vc_seq, xsQ, xsT, xsR, xsD, ↓reduceIte, reduceCtorEq, eq_self, ne_eq, imp_self, forall_const, Nat.reduceEqDiff, Nat.reduceAdd, Nat.reduceSub, Nat.reduceMul, Nat.reduceLT, Nat.reduceLeDiff, Nat.reduceBEq, Nat.reduceDiv, Nat.reduceMod, Int.reduceToNat, Int.reduceNeg, Int.reduceAdd, Int.reduceSub, Int.reduceMul, Int.reduceEq, Int.reduceNe, Int.reduceLT, Int.reduceLE, Int.reduceGT, Int.reduceGE, h5, h3, h6, h9, h10, h11, hq, hM3']
          refine newI_intro fun pb hpb => ?_
          simp -implicitDefEqProofs (maxSteps := 1000000) (disch := omega) only [↓xsP, ↓vc_seq, xsQ, xsT, xsR, xsD, ↓reduceIte, reduceCtorEq, eq_self, ne_eq, imp_self, forall_const, Nat.reduceEqDiff, Nat.reduceAdd, Nat.reduceSub, Nat.reduceMul, Nat.reduceLT, Nat.reduceLeDiff, Nat.reduceBEq, Nat.reduceDiv, Nat.reduceMod, Int.reduceToNat, Int.reduceNeg, Int.reduceAdd, Int.reduceSub, Int.reduceMul, Int.reduceEq, Int.reduceNe, Int.reduceLT, Int.reduceLE, Int.reduceGT, Int.reduceGE, h5, h3, h6, h9, h10, h11, hq, hM3']
          refine app_out (p := q) hO (hle8 _) hpb (by simp at hwl; omega) fun v' N' M2 hO2 hle2 _ => ?_
          obtain ⟨s5', rfl⟩ := hO2.val
          simp -implicitDefEqProofs (maxSteps := 1000000) (disch := omega) only [↓xsP, ↓vc_seq, xsQ, xsT, xsR, xsD, ↓reduceIte, reduceCtorEq, eq_self, ne_eq, imp_self, forall_const, Nat.reduceEqDiff, Nat.reduceAdd, Nat.reduceSub, Nat.reduceMul, Nat.reduceLT, Nat.reduceLeDiff, Nat.reduceBEq, Nat.reduceDiv, Nat.reduceMod, Int.reduceToNat, Int.reduceNeg, Int.reduceAdd, Int.reduceSub, Int.reduceMul, Int.reduceEq, Int.reduceNe, Int.reduceLT, Int.reduceLE, Int.reduceGT, Int.reduceGE, h5, h3, h6, h9, h10, h11, hq]
          exact ⟨l.length - (i + 1), M2, by omega, hle2, i + 1, by omega, rfl, by rw [hwt], rfl, by rw [hwt]; exact hO2⟩
        · rw [if_neg hk] at hwt
          simp -implicitDefEqProofs (maxSteps := 1000000) (disch := omega) only [↓xsP, ↓vc_seq, xsQ, xsT, xsR, xsD, ↓reduceIte, reduceCtorEq, eq_self, ne_eq, imp_self, forall_const, Nat.reduceEqDiff, Nat.reduceAdd, Nat.reduceSub, Nat.reduceMul, Nat.reduceLT, Nat.reduceLeDiff, Nat.reduceBEq, Nat.reduceDiv, Nat.reduceMod, Int.reduceToNat, Int.reduceNeg, Int.reduceAdd, Int.reduceSub, Int.reduceMul, Int.reduceEq, Int.reduceNe, Int.reduceLT, Int.reduceLE, Int.reduceGT, Int.reduceGE, h5, h3, h6, h9, h10, h11, hq, hM3']
          exact ⟨l.length - (i + 1), M', by omega, hle8 _, i + 1, by omega, rfl, by rw [hwt], rfl, by rw [hwt]; exact hO⟩
      | false =>
        simp -implicitDefEqProofs (maxSteps := 1000000) (disch := omega) only [↓xsP, ↓vc_seq, xsQ, xsT, xsR, xsD, ↓reduceIte, reduceCtorEq, eq_self, ne_eq, imp_self, forall_const, Nat.reduceEqDiff, Nat.reduceAdd, Nat.reduceSub, Nat.reduceMul, Nat.reduceLT, Nat.reduceLeDiff, Nat.reduceBEq, Nat.reduceDiv, Nat.reduceMod, Int.reduceToNat, Int.reduceNeg, Int.reduceAdd, Int.reduceSub, Int.reduceMul, Int.reduceEq, Int.reduceNe, Int.reduceLT, Int.reduceLE, Int.reduceGT, Int.reduceGE, h5, h3, h6, h9, h10, h11, hq, hM3']
        refine condI_prop (fun hge => ?_) (fun hge => ?_)
        · have hw1 : wst p (o, false) q = (if q.key ≠ p.key then o ++ [p] ++ [q] else o ++ [p], true) := by simp [wst, hge]
          rw [hw1] at hwt
          simp -implicitDefEqProofs (maxSteps := 1000000) (disch := omega) only [↓xsP, ↓vc_seq, xsQ, xsT, xsR, xsD, ↓reduceIte, reduceCtorEq, eq_self, ne_eq, imp_self, forall_const, Nat.reduceEqDiff, Nat.reduceAdd, Nat.reduceSub, Nat.reduceMul, Nat.reduceLT, Nat.reduceLeDiff, Nat.reduceBEq, Nat.reduceDiv, Nat.reduceMod, Int.reduceToNat, Int.reduceNeg, Int.reduceAdd, Int.reduceSub, Int.reduceMul, Int.reduceEq, Int.reduceNe, Int.reduceLT, Int.reduceLE, Int.reduceGT, Int.reduceGE, h5, h3, h6, h9, h10, h11, hq, hM3']
          refine newI_intro fun pb hpb => ?_
          simp -implicitDefEqProofs (maxSteps := 1000000) (disch := omega) only [↓xsP, ↓vc_seq, xsQ, xsT, xsR, xsD, ↓reduceIte, reduceCtorEq, eq_self, ne_eq, imp_self, forall_const, Nat.reduceEqDiff, Nat.reduceAdd, Nat.reduceSub, Nat.reduceMul, Nat.reduceLT, Nat.reduceLeDiff, Nat.reduceBEq, Nat.reduceDiv, Nat.reduceMod, Int.reduceToNat, Int.reduceNeg, Int.reduceAdd, Int.reduceSub, Int.reduceMul, Int.reduceEq, Int.reduceNe, Int.reduceLT, Int.reduceLE, Int.reduceGT, Int.reduceGE, h5, h3, h6, h9, h10, h11, hq, hM3']
          refine app_out (p := p) hO (hle8 _) hpb (by simp at hwl; omega) fun v' N' M2 hO2 hle2 hkeep => ?_
          obtain ⟨s5', h5'⟩ := hO2.val
          subst h5'
          have hN8 := hkeep _ _ (Mem.set_eq M' p8 _) hn8
          have hN3 := hle2 _ _ (hO2.base _ _ hM3)
          simp -implicitDefEqProofs (maxSteps := 1000000) (disch := omega) only [↓xsP, ↓vc_seq, xsQ, xsT, xsR, xsD, ↓reduceIte, reduceCtorEq, eq_self, ne_eq, imp_self, forall_const, Nat.reduceEqDiff, Nat.reduceAdd, Nat.reduceSub, Nat.reduceMul, Nat.reduceLT, Nat.reduceLeDiff, Nat.reduceBEq, Nat.reduceDiv, Nat.reduceMod, Int.reduceToNat, Int.reduceNeg, Int.reduceAdd, Int.reduceSub, Int.reduceMul, Int.reduceEq, Int.reduceNe, Int.reduceLT, Int.reduceLE, Int.reduceGT, Int.reduceGE, h5, h3, h6, h9, h10, h11, hq, hN8, hN3]
          refine condI_prop (fun hk => ?_) (fun hk => ?_)
          · rw [if_pos hk] at hwt
            simp -implicitDefEqProofs (maxSteps := 1000000) (disch := omega) only [↓xsP, ↓vc_seq, xsQ, xsT, xsR, xsD, ↓reduceIte, reduceCtorEq, eq_self, ne_eq, imp_self, forall_const, Nat.reduceEqDiff, Nat.reduceAdd, Nat.reduceSub, Nat.reduceMul, Nat.reduceLT, Nat.reduceLeDiff, Nat.reduceBEq, Nat.reduceDiv, Nat.reduceMod, Int.reduceToNat, Int.reduceNeg, Int.reduceAdd, Int.reduceSub, Int.reduceMul, Int.reduceEq, Int.reduceNe, Int.reduceLT, Int.reduceLE, Int.reduceGT, Int.reduceGE, h5, h3, h6, h9, h10, h11, hq, hN8, hN3]
            refine newI_intro fun pb2 hpb2 => ?_
            simp -implicitDefEqProofs (maxSteps := 1000000) (disch := omega) only [↓xsP, ↓vc_seq, xsQ, xsT, xsR, xsD, ↓reduceIte, reduceCtorEq, eq_self, ne_eq, imp_self, forall_const, Nat.reduceEqDiff, Nat.reduceAdd, Nat.reduceSub, Nat.reduceMul, Nat.reduceLT, Nat.reduceLeDiff, Nat.reduceBEq, Nat.reduceDiv, Nat.reduceMod, Int.reduceToNat, Int.reduceNeg, Int.reduceAdd, Int.reduceSub, Int.reduceMul, Int.reduceEq, Int.reduceNe, Int.reduceLT, Int.reduceLE, Int.reduceGT, Int.reduceGE, h5, h3, h6, h9, h10, h11, hq, hN8, hN3]
            refine app_out (p := q) hO2 hle2 hpb2 (by simp at hwl ⊢; omega) fun v2 N2 M3 hO3 hle3 _ => ?_
            obtain ⟨s6', rfl⟩ := hO3.val
            simp -implicitDefEqProofs (maxSteps := 1000000) (disch := omega) only [↓xsP, ↓vc_seq, xsQ, xsT, xsR, xsD, ↓reduceIte, reduceCtorEq, eq_self, ne_eq, imp_self, forall_const, Nat.reduceEqDiff, Nat.reduceAdd, Nat.reduceSub, Nat.reduceMul, Nat.reduceLT, Nat.reduceLeDiff, Nat.reduceBEq, Nat.reduceDiv, Nat.reduceMod, Int.reduceToNat, Int.reduceNeg, Int.reduceAdd, Int.reduceSub, Int.reduceMul, Int.reduceEq, Int.reduceNe, Int.reduceLT, Int.reduceLE, Int.reduceGT, Int.reduceGE, h5, h3, h6, h9, h10, h11, hq]
            exact ⟨l.length - (i + 1), M3, by omega, hle3, i + 1, by omega, rfl, by rw [hwt], rfl, by rw [hwt]; exact hO3⟩
          · rw [if_neg hk] at hwt
            simp -implicitDefEqProofs (maxSteps := 1000000) (disch := omega) only [↓xsP, ↓vc_seq, xsQ, xsT, xsR, xsD, ↓reduceIte, reduceCtorEq, eq_self, ne_eq, imp_self, forall_const, Nat.reduceEqDiff, Nat.reduceAdd, Nat.reduceSub, Nat.reduceMul, Nat.reduceLT, Nat.reduceLeDiff, Nat.reduceBEq, Nat.reduceDiv, Nat.reduceMod, Int.reduceToNat, Int.reduceNeg, Int.reduceAdd, Int.reduceSub, Int.reduceMul, Int.reduceEq, Int.reduceNe, Int.reduceLT, Int.reduceLE, Int.reduceGT, Int.reduceGE, h5, h3, h6, h9, h10, h11, hq, hN8, hN3]
            exact ⟨l.length - (i + 1), M2, by omega, hle2, i + 1, by omega, rfl, by rw [hwt], rfl, by rw [hwt]; exact hO2⟩
        · have hk : q.key ≠ p.key := by omega
          have hw1 : wst p (o, false) q = (o ++ [q], false) := by
            simp only [wst]
            rw [if_neg (show ¬ (True ∧ q.key ≥ p.key) from fun h => hge h.2), if_pos hk]
          rw [hw1] at hwt
          have hk' : (¬ q.key = p.key) = True := eq_true hk
          simp -implicitDefEqProofs (maxSteps := 1000000) (disch := omega) only [↓xsP, ↓vc_seq, xsQ, xsT, xsR, xsD, ↓reduceIte, reduceCtorEq, eq_self, ne_eq, imp_self, forall_const, Nat.reduceEqDiff, Nat.reduceAdd, Nat.reduceSub, Nat.reduceMul, Nat.reduceLT, Nat.reduceLeDiff, Nat.reduceBEq, Nat.reduceDiv, Nat.reduceMod, Int.reduceToNat, Int.reduceNeg, Int.reduceAdd, Int.reduceSub, Int.reduceMul, Int.reduceEq, Int.reduceNe, Int.reduceLT, Int.reduceLE, Int.reduceGT, Int.reduceGE, h5, h3, h6, h9, h10, h11, hq, hM3', hk']
          refine newI_intro fun pb hpb => ?_
          simp -implicitDefEqProofs (maxSteps := 1000000) (disch := omega) only [↓xsP, ↓vc_seq, xsQ, xsT, xsR, xsD, ↓reduceIte, reduceCtorEq, eq_self, ne_eq, imp_self, forall_const, Nat.reduceEqDiff, Nat.reduceAdd, Nat.reduceSub, Nat.reduceMul, Nat.reduceLT, Nat.reduceLeDiff, Nat.reduceBEq, Nat.reduceDiv, Nat.reduceMod, Int.reduceToNat, Int.reduceNeg, Int.reduceAdd, Int.reduceSub, Int.reduceMul, Int.reduceEq, Int.reduceNe, Int.reduceLT, Int.reduceLE, Int.reduceGT, Int.reduceGE, h5, h3, h6, h9, h10, h11, hq, hM3']
          refine app_out (p := q) hO (hle8 _) hpb (by simp at hwl; omega) fun v' N' M2 hO2 hle2 _ => ?_
          obtain ⟨s5', rfl⟩ := hO2.val
          simp -implicitDefEqProofs (maxSteps := 1000000) (disch := omega) only [↓xsP, ↓vc_seq, xsQ, xsT, xsR, xsD, ↓reduceIte, reduceCtorEq, eq_self, ne_eq, imp_self, forall_const, Nat.reduceEqDiff, Nat.reduceAdd, Nat.reduceSub, Nat.reduceMul, Nat.reduceLT, Nat.reduceLeDiff, Nat.reduceBEq, Nat.reduceDiv, Nat.reduceMod, Int.reduceToNat, Int.reduceNeg, Int.reduceAdd, Int.reduceSub, Int.reduceMul, Int.reduceEq, Int.reduceNe, Int.reduceLT, Int.reduceLE, Int.reduceGT, Int.reduceGE, h5, h3, h6, h9, h10, h11, hq]
          exact ⟨l.length - (i + 1), M2, by omega, hle2, i + 1, by omega, rfl, by rw [hwt], rfl, by rw [hwt]; exact hO2⟩
    · have hi' : i = l.length := by omega
      subst hi'
      rw [List.take_length] at hO h6
      have hwl := wrun_len p l
      rw [withR]
      generalize wrun p l = s at hwl hO h6 ⊢
      obtain ⟨o, d⟩ := s
      simp only at hwl hO h6 ⊢
      cases d with
      | true =>
        simp -implicitDefEqProofs (maxSteps := 1000000) (disch := omega) only [↓xsP, ↓vc_seq, xsQ, xsT, xsR, xsD, ↓reduceIte, reduceCtorEq, eq_self, ne_eq, imp_self, forall_const, Nat.reduceEqDiff, Nat.reduceAdd, Nat.reduceSub, Nat.reduceMul, Nat.reduceLT, Nat.reduceLeDiff, Nat.reduceBEq, Nat.reduceDiv, Nat.reduceMod, Int.reduceToNat, Int.reduceNeg, Int.reduceAdd, Int.reduceSub, Int.reduceMul, Int.reduceEq, Int.reduceNe, Int.reduceLT, Int.reduceLE, Int.reduceGT, Int.reduceGE, h5, h3, h6, h9, h10, h11, hM3']
        exact fin_out hO (Mem.le_refl _) hMN ⟨rfl, rfl⟩
      | false =>
        simp -implicitDefEqProofs (maxSteps := 1000000) (disch := omega) only [↓xsP, ↓vc_seq, xsQ, xsT, xsR, xsD, ↓reduceIte, reduceCtorEq, eq_self, ne_eq, imp_self, forall_const, Nat.reduceEqDiff, Nat.reduceAdd, Nat.reduceSub, Nat.reduceMul, Nat.reduceLT, Nat.reduceLeDiff, Nat.reduceBEq, Nat.reduceDiv, Nat.reduceMod, Int.reduceToNat, Int.reduceNeg, Int.reduceAdd, Int.reduceSub, Int.reduceMul, Int.reduceEq, Int.reduceNe, Int.reduceLT, Int.reduceLE, Int.reduceGT, Int.reduceGE, h5, h3, h6, h9, h10, h11, hM3']
        refine newI_intro fun pb hpb => ?_
        simp -implicitDefEqProofs (maxSteps := 1000000) (disch := omega) only [↓xsP, ↓vc_seq, xsQ, xsT, xsR, xsD, ↓reduceIte, reduceCtorEq, eq_self, ne_eq, imp_self, forall_const, Nat.reduceEqDiff, Nat.reduceAdd, Nat.reduceSub, Nat.reduceMul, Nat.reduceLT, Nat.reduceLeDiff, Nat.reduceBEq, Nat.reduceDiv, Nat.reduceMod, Int.reduceToNat, Int.reduceNeg, Int.reduceAdd, Int.reduceSub, Int.reduceMul, Int.reduceEq, Int.reduceNe, Int.reduceLT, Int.reduceLE, Int.reduceGT, Int.reduceGE, h5, h3, h6, h9, h10, h11, hM3']
        refine app_out (p := p) hO (Mem.le_refl _) hpb (by simp at hwl; omega) fun v' N' M2 hO2 hle2 _ => ?_
        obtain ⟨s5', rfl⟩ := hO2.val
        simp -implicitDefEqProofs (maxSteps := 1000000) (disch := omega) only [↓xsP, ↓vc_seq, xsQ, xsT, xsR, xsD, ↓reduceIte, reduceCtorEq, eq_self, ne_eq, imp_self, forall_const, Nat.reduceEqDiff, Nat.reduceAdd, Nat.reduceSub, Nat.reduceMul, Nat.reduceLT, Nat.reduceLeDiff, Nat.reduceBEq, Nat.reduceDiv, Nat.reduceMod, Int.reduceToNat, Int.reduceNeg, Int.reduceAdd, Int.reduceSub, Int.reduceMul, Int.reduceEq, Int.reduceNe, Int.reduceLT, Int.reduceLE, Int.reduceGT, Int.reduceGE, h5, h3, h6, h9, h10, h11]
        exact fin_out hO2 hle2 hMN ⟨rfl, rfl⟩
end Go.X

/- What the reference's Do does: the same as leaf's. -/

set_option linter.unusedVariables false
set_option linter.unusedSimpArgs false
set_option maxHeartbeats 20000000
set_option maxRecDepth 100000
namespace Go.X
open Go.Proofs.Try (prog)

theorem wfold_lt {p : Pr} : ∀ (A o : List Pr), (∀ a ∈ A, a.key < p.key) → A.foldl (wst p) (o, false) = (o ++ A, false)
  | [], o, _ => by simp
  | x :: r, o, h => by
    have hx := h x (by simp)
    have e : wst p (o, false) x = (o ++ [x], false) := by
      simp only [wst]
      rw [if_neg (show ¬ (True ∧ x.key ≥ p.key) from fun h => by omega), if_pos (by omega)]
    rw [List.foldl_cons, e, wfold_lt r _ fun a ha => h a (by simp [ha])]
    simp
theorem wfold_gt {p : Pr} : ∀ (C o : List Pr), (∀ c ∈ C, p.key < c.key) → C.foldl (wst p) (o, true) = (o ++ C, true)
  | [], o, _ => by simp
  | x :: r, o, h => by
    have hx := h x (by simp)
    have e : wst p (o, true) x = (o ++ [x], true) := by
      have : x.key ≠ p.key := by omega
      simp [wst, this]
    rw [List.foldl_cons, e, wfold_gt r _ fun a ha => h a (by simp [ha])]
    simp
theorem withR_eq {l : List Pr} (h : Asc l) (p : Pr) : withR l p = withL l p := by
  rcases forms p.key l h with ⟨A, C, hO⟩ | ⟨A, x, C, hI⟩
  · have hw : withL l p = A ++ p :: C := hO.with p.val
    rw [hw]
    obtain ⟨rfl, h1, h2⟩ := hO
    rw [withR, wrun, List.foldl_append, wfold_lt A _ h1]
    cases C with
    | nil => simp
    | cons c r =>
      have hc := h2 c (by simp)
      have e : wst p ([] ++ A, false) c = (A ++ [p] ++ [c], true) := by
        have h1 : c.key ≠ p.key := by omega
        have h2 : p.key ≤ c.key := by omega
        simp [wst, h1, h2]
      rw [List.foldl_cons, e, wfold_gt r _ fun a ha => h2 a (by simp [ha])]
      simp
  · have hw : withL l p = A ++ p :: C := hI.with p.val
    rw [hw]
    obtain ⟨rfl, hk, h1, h2⟩ := hI
    rw [withR, wrun, List.foldl_append, wfold_lt A _ h1]
    have e : wst p ([] ++ A, false) x = (A ++ [p], true) := by
      have h2 : p.key ≤ x.key := by omega
      simp [wst, hk, h2]
    rw [List.foldl_cons, e, wfold_gt C _ h2]
    simp
theorem withL_len (l : List Pr) (p : Pr) : (withL l p).length ≤ l.length + 1 := by
  have := withRest_len l p
  rw [withL]
  simp only [List.length_append, List.length_take, List.length_cons, List.length_nil]
  omega
theorem withoutR_eq {l : List Pr} (h : Asc l) {op : Opn} (hk : op.kind = 3) : (l.filter fun p => decide (p.key ≠ op.key)) = oneL l op := by
  rcases one_forms op h (by omega) with ⟨A, C, hO, hc⟩ | ⟨A, x, C, hI, hc⟩
  · have e : oneL l op = l := by
      rcases hc with ⟨h', _⟩ | ⟨_, h'⟩
      · omega
      · exact h'
    rw [e]
    obtain ⟨rfl, h1, h2⟩ := hO
    refine List.filter_eq_self.2 fun a ha => ?_
    rcases List.mem_append.1 ha with h' | h'
    · have := h1 a h'; simp; omega
    · have := h2 a h'; simp; omega
  · have e : oneL l op = A ++ C := by
      rcases hc with ⟨h', _⟩ | ⟨_, h'⟩ | ⟨h', _⟩
      · omega
      · exact h'
      · omega
    rw [e]
    obtain ⟨rfl, hx, h1, h2⟩ := hI
    have f1 : A.filter (fun p => decide (p.key ≠ op.key)) = A := List.filter_eq_self.2 fun a ha => by have := h1 a ha; simp; omega
    have f2 : C.filter (fun p => decide (p.key ≠ op.key)) = C := List.filter_eq_self.2 fun a ha => by have := h2 a ha; simp; omega
    rw [List.filter_append, List.filter_cons, if_neg (by simp [hx]), f1, f2]

theorem app_clone {N : Mem} {l : List Pr} (hl : l.length ≤ 2000002) {K : AV → Mem → Prop} (hc : ∀ v M', OutP N v M' l → K v M') : @appI Go.Proofs.Try.prog N 24 24 (.l .nils) (.l (.sl (l.map Pr.row))) ⟨K⟩ := by
  refine app_nils _ _ _ _ 38 _ _ ti_24 rfl ti_38 (by kernel_rfl) (by decide) _ (l.map Pr.row) ?_ ?_ ?_ ?_ ?_
  · simp -implicitDefEqProofs (maxSteps := 1000000) (disch := omega) only [↓xsP, ↓vc_seq, xsQ, xsT, xsR, xsD, ↓reduceIte, reduceCtorEq, eq_self, ne_eq, imp_self, forall_const, Nat.reduceEqDiff, Nat.reduceAdd, Nat.reduceSub, Nat.reduceMul, Nat.reduceLT, Nat.reduceLeDiff, Nat.reduceBEq, Nat.reduceDiv, Nat.reduceMod, Int.reduceToNat, Int.reduceNeg, Int.reduceAdd, Int.reduceSub, Int.reduceMul, Int.reduceEq, Int.reduceNe, Int.reduceLT, Int.reduceLE, Int.reduceGT, Int.reduceGE]
    rw [if_pos (rows2 l)]
  · exact Nat.le_trans (Nat.mul_le_mul_right _ (show (l.map Pr.row).length ≤ 2000002 by simpa using hl)) (by decide)
  · simp; omega
  · intro h
    have : l = [] := by simpa using h
    exact hc _ _ (.inl ⟨this, rfl, rfl⟩)
  · intro _ id hid
    exact hc _ _ (.inr ⟨id, hid, by simp, rfl⟩)
/-- A slice that is kept, or is being made. -/
def OutQ (M : Mem) (s : Lf) (M' : Mem) (rows : List Pr) : Prop := s = .sl (rows.map Pr.row) ∨ OutP M (.l s) M' rows
theorem finI_outQ {M M' N : Mem} {s : Lf} {rows : List Pr} {a b c d e f : Lf} {K : AV → Mem → Prop} (p5 : Nat) (h : OutQ M s M' rows) (hle : ∀ k bk, k ≠ p5 → M' k = some bk → N k = some bk) {b5 : Blk} (h5 : M p5 = some b5) {M0 : Mem} (h0 : M0.le M) (h05 : M0 p5 = none) (hM : M.le M')
    (hf : ∀ id r, [a, b, c, d, e, f].map (frzL id r) = [a, b, c, d, e, f]) (hK : K (.tup [.l (.sl (rows.map Pr.row)), .agg ([a, b, c, d, e, f].map wkL)]) M0) : @finI Go.Proofs.Try.prog (.tup [.l s, .agg [a, b, c, d, e, f]]) N ⟨K⟩ := by
  refine finI_of ?_
  have hMN : M0.le N := fun k bk hk => hle _ _ (fun e => by subst e; rw [h05] at hk; cases hk) (hM _ _ (h0 _ _ hk))
  rcases h with rfl | ⟨rfl, h, rfl⟩ | ⟨idO, hO, h, rfl⟩
  · exact XFin.wk (XFin.le hMN hK)
  · cases h
    exact XFin.wk (XFin.le hMN hK)
  · cases h
    have hO5 := lt_of_bnd hO h5
    refine XFin.frz idO (hle _ _ (by omega) (Mem.set_eq _ _ _)) ?_
    have e2 : frzA idO (rows.map Pr.row) (.tup [.l (.ms idO 0 rows.length), .agg [a, b, c, d, e, f]]) = .tup [.l (.sl (rows.map Pr.row)), .agg [a, b, c, d, e, f]] := by
      have := hf idO (rows.map Pr.row)
      simp only [frzA, frz1, List.map_cons, List.map_nil] at this ⊢
      rw [this]
      simp [frzL, List.take_of_length_le]
    rw [e2]
    refine XFin.wk (XFin.le (M' := M0) (fun k bk hk => ?_) hK)
    have hk' := h0 _ _ hk
    have := lt_of_bnd hO hk'
    rw [Mem.set_ne _ _ _ _ (by omega)]
    exact hMN _ _ hk

end Go.X

/- slices' functions on rows of operations: IndexFunc, Clone, DeleteFunc, Grow. -/

set_option linter.unusedVariables false
set_option linter.unusedSimpArgs false
set_option maxHeartbeats 20000000
set_option maxRecDepth 100000
namespace Go.X
open Go.Proofs.Try (prog)

/-- A slice of pairs, kept or of a live block. -/
def SrcIsO (M : Mem) (s : Lf) (l : List Opn) : Prop := s = .sl (l.map Opn.row) ∨ ∃ id keep, s = .ms id 0 l.length ∧ M id = some (.cells 34 (l.map Opn.row) keep)
theorem SrcIsO.le {M M' : Mem} {s : Lf} {l : List Opn} (h : SrcIsO M s l) (hle : M.le M') : SrcIsO M' s l := by
  rcases h with h | ⟨id, keep, h, h2⟩
  · exact .inl h
  · exact .inr ⟨id, keep, h, hle _ _ h2⟩
/-- The first place from i on of what is looked for; -1: none. -/
def pidxO (q : Opn → Bool) : List Opn → Nat → Int
  | [], _ => -1
  | p :: r, i => if q p then i else pidxO q r (i + 1)
theorem indexO_spec (l : List Opn) (hl : l.length ≤ 140737488355328) (s : Lf) (M : Mem) (hs : SrcIsO M s l) (f : FuncId) (caps : List Lf) (q : Opn → Bool) (hq : ∀ p, XCalls Go.Proofs.Try.prog f ([.agg p.row] ++ caps.map .l) M fun r M' => r = .l (.bool (q p)) ∧ M' = M) :
    XCalls Go.Proofs.Try.prog 56 [.l s, .l (.clo f caps)] M fun r M' => r = .l (.int .i64 (pidxO q l 0)) ∧ M' = M := by
  refine xcalls_intro (rs := [.tmp 4]) Go.Proofs.Try.func56 rfl (by kernel_rfl) rfl rfl (by kernel_rfl) (by simp) ?_
  have hstep : ∀ i, i < l.length → l.drop i = l.getD i default :: l.drop (i + 1) := fun i hi => by
    rw [List.drop_eq_getElem_cons hi, List.getD_eq_getElem?_getD, List.getElem?_eq_getElem hi, Option.getD_some]
  have inv0 : ∀ i, (i : Nat) = 0 → pidxO q l 0 = pidxO q (l.drop i) i := fun i h => by subst h; rfl
  rcases hs with rfl | ⟨id, keep, rfl, hM⟩
  · simp -implicitDefEqProofs (maxSteps := 1000000) (disch := omega) only [↓xsP, ↓vc_seq, xsQ, xsT, xsR, xsD, ↓reduceIte, reduceCtorEq, eq_self, ne_eq, imp_self, forall_const, Nat.reduceEqDiff, Nat.reduceAdd, Nat.reduceSub, Nat.reduceMul, Nat.reduceLT, Nat.reduceLeDiff, Nat.reduceBEq, Nat.reduceDiv, Nat.reduceMod, Int.reduceToNat, Int.reduceNeg, Int.reduceAdd, Int.reduceSub, Int.reduceMul, Int.reduceEq, Int.reduceNe, Int.reduceLT, Int.reduceLE, Int.reduceGT, Int.reduceGE]
    refine loopI_of (xloop (by kernel_rfl) (fun k fr M' => ∃ i : Nat, i ≤ l.length ∧ k = l.length - i ∧ fr 0 = .l (.sl (l.map Opn.row)) ∧ fr 1 = .l (.clo f caps) ∧ fr 7 = .l (.int .i64 l.length) ∧ fr 8 = .l (.int .i64 i) ∧ M' = M ∧ pidxO q l 0 = pidxO q (l.drop i) i) l.length ?_ ?_)
    · exact ⟨0, Nat.zero_le _, rfl, by simp -implicitDefEqProofs (maxSteps := 1000000) (disch := omega) only [↓xsP, ↓vc_seq, xsQ, xsT, xsR, xsD, ↓reduceIte, reduceCtorEq, eq_self, ne_eq, imp_self, forall_const, Nat.reduceEqDiff, Nat.reduceAdd, Nat.reduceSub, Nat.reduceMul, Nat.reduceLT, Nat.reduceLeDiff, Nat.reduceBEq, Nat.reduceDiv, Nat.reduceMod, Int.reduceToNat, Int.reduceNeg, Int.reduceAdd, Int.reduceSub, Int.reduceMul, Int.reduceEq, Int.reduceNe, Int.reduceLT, Int.reduceLE, Int.reduceGT, Int.reduceGE], by simp -implicitDefEqProofs (maxSteps := 1000000) (disch := omega) only [↓xsP, ↓vc_seq, xsQ, xsT, xsR, xsD, ↓reduceIte, reduceCtorEq, eq_self, ne_eq, imp_self, forall_const, Nat.reduceEqDiff, Nat.reduceAdd, Nat.reduceSub, Nat.reduceMul, Nat.reduceLT, Nat.reduceLeDiff, Nat.reduceBEq, Nat.reduceDiv, Nat.reduceMod, Int.reduceToNat, Int.reduceNeg, Int.reduceAdd, Int.reduceSub, Int.reduceMul, Int.reduceEq, Int.reduceNe, Int.reduceLT, Int.reduceLE, Int.reduceGT, Int.reduceGE], by simp -implicitDefEqProofs (maxSteps := 1000000) (disch := omega) only [↓xsP, ↓vc_seq, xsQ, xsT, xsR, xsD, ↓reduceIte, reduceCtorEq, eq_self, ne_eq, imp_self, forall_const, Nat.reduceEqDiff, Nat.reduceAdd, Nat.reduceSub, Nat.reduceMul, Nat.reduceLT, Nat.reduceLeDiff, Nat.reduceBEq, Nat.reduceDiv, Nat.reduceMod, Int.reduceToNat, Int.reduceNeg, Int.reduceAdd, Int.reduceSub, Int.reduceMul, Int.reduceEq, Int.reduceNe, Int.reduceLT, Int.reduceLE, Int.reduceGT, Int.reduceGE], by simp -implicitDefEqProofs (maxSteps := 1000000) (disch := omega) only [↓xsP, ↓vc_seq, xsQ, xsT, xsR, xsD, ↓reduceIte, reduceCtorEq, eq_self, ne_eq, imp_self, forall_const, Nat.reduceEqDiff, Nat.reduceAdd, Nat.reduceSub, Nat.reduceMul, Nat.reduceLT, Nat.reduceLeDiff, Nat.reduceBEq, Nat.reduceDiv, Nat.reduceMod, Int.reduceToNat, Int.reduceNeg, Int.reduceAdd, Int.reduceSub, Int.reduceMul, Int.reduceEq, Int.reduceNe, Int.reduceLT, Int.reduceLE, Int.reduceGT, Int.reduceGE, Int.cast_ofNat_Int], rfl, inv0 0 rfl⟩
    · rintro k fr M' ⟨i, hi, rfl, h0, h1, h7, h8, rfl, hinv⟩
      simp -implicitDefEqProofs (maxSteps := 1000000) (disch := omega) only [↓xsP, ↓vc_seq, xsQ, xsT, xsR, xsD, ↓reduceIte, reduceCtorEq, eq_self, ne_eq, imp_self, forall_const, Nat.reduceEqDiff, Nat.reduceAdd, Nat.reduceSub, Nat.reduceMul, Nat.reduceLT, Nat.reduceLeDiff, Nat.reduceBEq, Nat.reduceDiv, Nat.reduceMod, Int.reduceToNat, Int.reduceNeg, Int.reduceAdd, Int.reduceSub, Int.reduceMul, Int.reduceEq, Int.reduceNe, Int.reduceLT, Int.reduceLE, Int.reduceGT, Int.reduceGE, h0, h1, h7, h8]
      refine condI_prop (fun hlt => ?_) (fun hlt => ?_)
      · simp -implicitDefEqProofs (maxSteps := 1000000) (disch := omega) only [↓xsP, ↓vc_seq, xsQ, xsT, xsR, xsD, ↓reduceIte, reduceCtorEq, eq_self, ne_eq, imp_self, forall_const, Nat.reduceEqDiff, Nat.reduceAdd, Nat.reduceSub, Nat.reduceMul, Nat.reduceLT, Nat.reduceLeDiff, Nat.reduceBEq, Nat.reduceDiv, Nat.reduceMod, Int.reduceToNat, Int.reduceNeg, Int.reduceAdd, Int.reduceSub, Int.reduceMul, Int.reduceEq, Int.reduceNe, Int.reduceLT, Int.reduceLE, Int.reduceGT, Int.reduceGE, h0, h1, h7, h8]
        rw [hstep i (by omega), pidxO] at hinv
        refine call_of (hq (l.getD i default)) ?_
        cases hb : q (l.getD i default) with
        | true =>
          rw [hb, if_pos rfl] at hinv
          simp -implicitDefEqProofs (maxSteps := 1000000) (disch := omega) only [↓xsP, ↓vc_seq, xsQ, xsT, xsR, xsD, ↓reduceIte, reduceCtorEq, eq_self, ne_eq, imp_self, forall_const, Nat.reduceEqDiff, Nat.reduceAdd, Nat.reduceSub, Nat.reduceMul, Nat.reduceLT, Nat.reduceLeDiff, Nat.reduceBEq, Nat.reduceDiv, Nat.reduceMod, Int.reduceToNat, Int.reduceNeg, Int.reduceAdd, Int.reduceSub, Int.reduceMul, Int.reduceEq, Int.reduceNe, Int.reduceLT, Int.reduceLE, Int.reduceGT, Int.reduceGE, h0, h1, h7, h8]
          exact fin_ok (Mem.le_refl _) ⟨by rw [hinv], rfl⟩
        | false =>
          rw [hb] at hinv
          simp -implicitDefEqProofs (maxSteps := 1000000) (disch := omega) only [↓xsP, ↓vc_seq, xsQ, xsT, xsR, xsD, ↓reduceIte, reduceCtorEq, eq_self, ne_eq, imp_self, forall_const, Nat.reduceEqDiff, Nat.reduceAdd, Nat.reduceSub, Nat.reduceMul, Nat.reduceLT, Nat.reduceLeDiff, Nat.reduceBEq, Nat.reduceDiv, Nat.reduceMod, Int.reduceToNat, Int.reduceNeg, Int.reduceAdd, Int.reduceSub, Int.reduceMul, Int.reduceEq, Int.reduceNe, Int.reduceLT, Int.reduceLE, Int.reduceGT, Int.reduceGE, h0, h1, h7, h8]
          exact ⟨l.length - (i + 1), M', by omega, Mem.le_refl _, i + 1, by omega, rfl, by simp, rfl, by simpa using hinv⟩
      · simp -implicitDefEqProofs (maxSteps := 1000000) (disch := omega) only [↓xsP, ↓vc_seq, xsQ, xsT, xsR, xsD, ↓reduceIte, reduceCtorEq, eq_self, ne_eq, imp_self, forall_const, Nat.reduceEqDiff, Nat.reduceAdd, Nat.reduceSub, Nat.reduceMul, Nat.reduceLT, Nat.reduceLeDiff, Nat.reduceBEq, Nat.reduceDiv, Nat.reduceMod, Int.reduceToNat, Int.reduceNeg, Int.reduceAdd, Int.reduceSub, Int.reduceMul, Int.reduceEq, Int.reduceNe, Int.reduceLT, Int.reduceLE, Int.reduceGT, Int.reduceGE, h0, h1, h7, h8]
        have hil : i = l.length := by omega
        rw [hil, List.drop_length, pidxO] at hinv
        exact fin_ok (Mem.le_refl _) ⟨by rw [hinv], rfl⟩
  · simp -implicitDefEqProofs (maxSteps := 1000000) (disch := omega) only [↓xsP, ↓vc_seq, xsQ, xsT, xsR, xsD, ↓reduceIte, reduceCtorEq, eq_self, ne_eq, imp_self, forall_const, Nat.reduceEqDiff, Nat.reduceAdd, Nat.reduceSub, Nat.reduceMul, Nat.reduceLT, Nat.reduceLeDiff, Nat.reduceBEq, Nat.reduceDiv, Nat.reduceMod, Int.reduceToNat, Int.reduceNeg, Int.reduceAdd, Int.reduceSub, Int.reduceMul, Int.reduceEq, Int.reduceNe, Int.reduceLT, Int.reduceLE, Int.reduceGT, Int.reduceGE]
    refine loopI_of (xloop (by kernel_rfl) (fun k fr M' => ∃ i : Nat, i ≤ l.length ∧ k = l.length - i ∧ fr 0 = .l (.ms id 0 l.length) ∧ fr 1 = .l (.clo f caps) ∧ fr 7 = .l (.int .i64 l.length) ∧ fr 8 = .l (.int .i64 i) ∧ M' = M ∧ pidxO q l 0 = pidxO q (l.drop i) i) l.length ?_ ?_)
    · exact ⟨0, Nat.zero_le _, rfl, by simp -implicitDefEqProofs (maxSteps := 1000000) (disch := omega) only [↓xsP, ↓vc_seq, xsQ, xsT, xsR, xsD, ↓reduceIte, reduceCtorEq, eq_self, ne_eq, imp_self, forall_const, Nat.reduceEqDiff, Nat.reduceAdd, Nat.reduceSub, Nat.reduceMul, Nat.reduceLT, Nat.reduceLeDiff, Nat.reduceBEq, Nat.reduceDiv, Nat.reduceMod, Int.reduceToNat, Int.reduceNeg, Int.reduceAdd, Int.reduceSub, Int.reduceMul, Int.reduceEq, Int.reduceNe, Int.reduceLT, Int.reduceLE, Int.reduceGT, Int.reduceGE], by simp -implicitDefEqProofs (maxSteps := 1000000) (disch := omega) only [↓xsP, ↓vc_seq, xsQ, xsT, xsR, xsD, ↓reduceIte, reduceCtorEq, eq_self, ne_eq, imp_self, forall_const, Nat.reduceEqDiff, Nat.reduceAdd, Nat.reduceSub, Nat.reduceMul, Nat.reduceLT, Nat.reduceLeDiff, Nat.reduceBEq, Nat.reduceDiv, Nat.reduceMod, Int.reduceToNat, Int.reduceNeg, Int.reduceAdd, Int.reduceSub, Int.reduceMul, Int.reduceEq, Int.reduceNe, Int.reduceLT, Int.reduceLE, Int.reduceGT, Int.reduceGE], by simp -implicitDefEqProofs (maxSteps := 1000000) (disch := omega) only [↓xsP, ↓vc_seq, xsQ, xsT, xsR, xsD, ↓reduceIte, reduceCtorEq, eq_self, ne_eq, imp_self, forall_const, Nat.reduceEqDiff, Nat.reduceAdd, Nat.reduceSub, Nat.reduceMul, Nat.reduceLT, Nat.reduceLeDiff, Nat.reduceBEq, Nat.reduceDiv, Nat.reduceMod, Int.reduceToNat, Int.reduceNeg, Int.reduceAdd, Int.reduceSub, Int.reduceMul, Int.reduceEq, Int.reduceNe, Int.reduceLT, Int.reduceLE, Int.reduceGT, Int.reduceGE], by simp -implicitDefEqProofs (maxSteps := 1000000) (disch := omega) only [↓xsP, ↓vc_seq, xsQ, xsT, xsR, xsD, ↓reduceIte, reduceCtorEq, eq_self, ne_eq, imp_self, forall_const, Nat.reduceEqDiff, Nat.reduceAdd, Nat.reduceSub, Nat.reduceMul, Nat.reduceLT, Nat.reduceLeDiff, Nat.reduceBEq, Nat.reduceDiv, Nat.reduceMod, Int.reduceToNat, Int.reduceNeg, Int.reduceAdd, Int.reduceSub, Int.reduceMul, Int.reduceEq, Int.reduceNe, Int.reduceLT, Int.reduceLE, Int.reduceGT, Int.reduceGE, Int.cast_ofNat_Int], rfl, inv0 0 rfl⟩
    · rintro k fr M' ⟨i, hi, rfl, h0, h1, h7, h8, rfl, hinv⟩
      simp -implicitDefEqProofs (maxSteps := 1000000) (disch := omega) only [↓xsP, ↓vc_seq, xsQ, xsT, xsR, xsD, ↓reduceIte, reduceCtorEq, eq_self, ne_eq, imp_self, forall_const, Nat.reduceEqDiff, Nat.reduceAdd, Nat.reduceSub, Nat.reduceMul, Nat.reduceLT, Nat.reduceLeDiff, Nat.reduceBEq, Nat.reduceDiv, Nat.reduceMod, Int.reduceToNat, Int.reduceNeg, Int.reduceAdd, Int.reduceSub, Int.reduceMul, Int.reduceEq, Int.reduceNe, Int.reduceLT, Int.reduceLE, Int.reduceGT, Int.reduceGE, h0, h1, h7, h8]
      refine condI_prop (fun hlt => ?_) (fun hlt => ?_)
      · simp -implicitDefEqProofs (maxSteps := 1000000) (disch := omega) only [↓xsP, ↓vc_seq, xsQ, xsT, xsR, xsD, ↓reduceIte, reduceCtorEq, eq_self, ne_eq, imp_self, forall_const, Nat.reduceEqDiff, Nat.reduceAdd, Nat.reduceSub, Nat.reduceMul, Nat.reduceLT, Nat.reduceLeDiff, Nat.reduceBEq, Nat.reduceDiv, Nat.reduceMod, Int.reduceToNat, Int.reduceNeg, Int.reduceAdd, Int.reduceSub, Int.reduceMul, Int.reduceEq, Int.reduceNe, Int.reduceLT, Int.reduceLE, Int.reduceGT, Int.reduceGE, h0, h1, h7, h8, hM]
        rw [hstep i (by omega), pidxO] at hinv
        refine call_of (hq (l.getD i default)) ?_
        cases hb : q (l.getD i default) with
        | true =>
          rw [hb, if_pos rfl] at hinv
          simp -implicitDefEqProofs (maxSteps := 1000000) (disch := omega) only [↓xsP, ↓vc_seq, xsQ, xsT, xsR, xsD, ↓reduceIte, reduceCtorEq, eq_self, ne_eq, imp_self, forall_const, Nat.reduceEqDiff, Nat.reduceAdd, Nat.reduceSub, Nat.reduceMul, Nat.reduceLT, Nat.reduceLeDiff, Nat.reduceBEq, Nat.reduceDiv, Nat.reduceMod, Int.reduceToNat, Int.reduceNeg, Int.reduceAdd, Int.reduceSub, Int.reduceMul, Int.reduceEq, Int.reduceNe, Int.reduceLT, Int.reduceLE, Int.reduceGT, Int.reduceGE, h0, h1, h7, h8]
          exact fin_ok (Mem.le_refl _) ⟨by rw [hinv], rfl⟩
        | false =>
          rw [hb] at hinv
          simp -implicitDefEqProofs (maxSteps := 1000000) (disch := omega) only [↓xsP, ↓vc_seq, xsQ, xsT, xsR, xsD, ↓reduceIte, reduceCtorEq, eq_self, ne_eq, imp_self, forall_const, Nat.reduceEqDiff, Nat.reduceAdd, Nat.reduceSub, Nat.reduceMul, Nat.reduceLT, Nat.reduceLeDiff, Nat.reduceBEq, Nat.reduceDiv, Nat.reduceMod, Int.reduceToNat, Int.reduceNeg, Int.reduceAdd, Int.reduceSub, Int.reduceMul, Int.reduceEq, Int.reduceNe, Int.reduceLT, Int.reduceLE, Int.reduceGT, Int.reduceGE, h0, h1, h7, h8]
          exact ⟨l.length - (i + 1), M', by omega, Mem.le_refl _, i + 1, by omega, rfl, by simp, rfl, by simpa using hinv⟩
      · simp -implicitDefEqProofs (maxSteps := 1000000) (disch := omega) only [↓xsP, ↓vc_seq, xsQ, xsT, xsR, xsD, ↓reduceIte, reduceCtorEq, eq_self, ne_eq, imp_self, forall_const, Nat.reduceEqDiff, Nat.reduceAdd, Nat.reduceSub, Nat.reduceMul, Nat.reduceLT, Nat.reduceLeDiff, Nat.reduceBEq, Nat.reduceDiv, Nat.reduceMod, Int.reduceToNat, Int.reduceNeg, Int.reduceAdd, Int.reduceSub, Int.reduceMul, Int.reduceEq, Int.reduceNe, Int.reduceLT, Int.reduceLE, Int.reduceGT, Int.reduceGE, h0, h1, h7, h8]
        have hil : i = l.length := by omega
        rw [hil, List.drop_length, pidxO] at hinv
        exact fin_ok (Mem.le_refl _) ⟨by rw [hinv], rfl⟩
theorem rows4 (l : List Opn) : ∀ r ∈ l.map Opn.row, r.length = 4 := fun r hr => by
  obtain ⟨p, _, rfl⟩ := List.mem_map.1 hr
  rfl
/-- append of pairs to a slice of a live block. -/
theorem app_opns {l : List Opn} {id len : Nat} {rows : List (List Lf)} {keep : Nat} {M : Mem} (hM : M id = some (.cells 34 rows keep)) (hlen : len ≤ rows.length) (hk : keep ≤ len) (hb : len + l.length ≤ 2000002) {K : AV → Mem → Prop}
    (h : ∀ id', (∀ j, id' ≤ j → M j = none) → K (.l (.ms id' 0 (len + l.length))) ((M.del id).set id' (.cells 34 (rows.take len ++ l.map Opn.row) keep))) :
    @appI Go.Proofs.Try.prog M 32 32 (.l (.ms id 0 len)) (.l (.sl (l.map Opn.row))) ⟨K⟩ := by
  refine app_ms _ _ _ _ 34 _ _ ti_32 rfl ti_34 (by kernel_rfl) (by decide) id len _ (rows := rows) (keep := keep) (l.map Opn.row) hM ?_ hlen hk ?_ ?_ ?_
  · simp -implicitDefEqProofs (maxSteps := 1000000) (disch := omega) only [↓xsP, ↓vc_seq, xsQ, xsT, xsR, xsD, ↓reduceIte, reduceCtorEq, eq_self, ne_eq, imp_self, forall_const, Nat.reduceEqDiff, Nat.reduceAdd, Nat.reduceSub, Nat.reduceMul, Nat.reduceLT, Nat.reduceLeDiff, Nat.reduceBEq, Nat.reduceDiv, Nat.reduceMod, Int.reduceToNat, Int.reduceNeg, Int.reduceAdd, Int.reduceSub, Int.reduceMul, Int.reduceEq, Int.reduceNe, Int.reduceLT, Int.reduceLE, Int.reduceGT, Int.reduceGE]
    rw [if_pos (rows4 l)]
  · exact Nat.le_trans (Nat.mul_le_mul_right _ (show len + (l.map Opn.row).length ≤ 2000002 by simpa using hb)) (by decide)
  · simp
    omega
  · simpa using h
/-- A copy: nil, or a block of its own. -/
theorem cloneO_live (l : List Opn) (hl : l.length ≤ 1000001) (M : Mem) :
    XCalls Go.Proofs.Try.prog 37 [.l (.sl (l.map Opn.row))] M fun r M' => (r = .l .nils ∧ l = [] ∧ M' = M) ∨ ∃ id, (∀ j, id ≤ j → M j = none) ∧ r = .l (.ms id 0 l.length) ∧ M' = M.set id (.cells 34 (l.map Opn.row) 0) := by
  refine xcalls_intro (rs := [.tmp 2]) Go.Proofs.Try.func37 rfl (by kernel_rfl) rfl rfl (by kernel_rfl) (by simp) ?_
  simp -implicitDefEqProofs (maxSteps := 1000000) (disch := omega) only [↓xsP, ↓vc_seq, xsQ, xsT, xsR, xsD, ↓reduceIte, reduceCtorEq, eq_self, ne_eq, imp_self, forall_const, Nat.reduceEqDiff, Nat.reduceAdd, Nat.reduceSub, Nat.reduceMul, Nat.reduceLT, Nat.reduceLeDiff, Nat.reduceBEq, Nat.reduceDiv, Nat.reduceMod, Int.reduceToNat, Int.reduceNeg, Int.reduceAdd, Int.reduceSub, Int.reduceMul, Int.reduceEq, Int.reduceNe, Int.reduceLT, Int.reduceLE, Int.reduceGT, Int.reduceGE]
  rw [eql_sl_nil]
  simp -implicitDefEqProofs (maxSteps := 1000000) (disch := omega) only [↓xsP, ↓vc_seq, xsQ, xsT, xsR, xsD, ↓reduceIte, reduceCtorEq, eq_self, ne_eq, imp_self, forall_const, Nat.reduceEqDiff, Nat.reduceAdd, Nat.reduceSub, Nat.reduceMul, Nat.reduceLT, Nat.reduceLeDiff, Nat.reduceBEq, Nat.reduceDiv, Nat.reduceMod, Int.reduceToNat, Int.reduceNeg, Int.reduceAdd, Int.reduceSub, Int.reduceMul, Int.reduceEq, Int.reduceNe, Int.reduceLT, Int.reduceLE, Int.reduceGT, Int.reduceGE]
  refine nilSI_sl _ (fun he b => ?_) (fun hne => ?_)
  · have hl0 : l = [] := by simpa using he
    subst hl0
    cases b with
    | true =>
      simp -implicitDefEqProofs (maxSteps := 1000000) (disch := omega) only [↓xsP, ↓vc_seq, xsQ, xsT, xsR, xsD, ↓reduceIte, reduceCtorEq, eq_self, ne_eq, imp_self, forall_const, Nat.reduceEqDiff, Nat.reduceAdd, Nat.reduceSub, Nat.reduceMul, Nat.reduceLT, Nat.reduceLeDiff, Nat.reduceBEq, Nat.reduceDiv, Nat.reduceMod, Int.reduceToNat, Int.reduceNeg, Int.reduceAdd, Int.reduceSub, Int.reduceMul, Int.reduceEq, Int.reduceNe, Int.reduceLT, Int.reduceLE, Int.reduceGT, Int.reduceGE]
      exact fin_ok (Mem.le_refl _) (.inl ⟨rfl, rfl, rfl⟩)
    | false =>
      simp -implicitDefEqProofs (maxSteps := 1000000) (disch := omega) only [↓xsP, ↓vc_seq, xsQ, xsT, xsR, xsD, ↓reduceIte, reduceCtorEq, eq_self, ne_eq, imp_self, forall_const, Nat.reduceEqDiff, Nat.reduceAdd, Nat.reduceSub, Nat.reduceMul, Nat.reduceLT, Nat.reduceLeDiff, Nat.reduceBEq, Nat.reduceDiv, Nat.reduceMod, Int.reduceToNat, Int.reduceNeg, Int.reduceAdd, Int.reduceSub, Int.reduceMul, Int.reduceEq, Int.reduceNe, Int.reduceLT, Int.reduceLE, Int.reduceGT, Int.reduceGE]
      refine newI_intro fun id hid => ?_
      simp -implicitDefEqProofs (maxSteps := 1000000) (disch := omega) only [↓xsP, ↓vc_seq, xsQ, xsT, xsR, xsD, ↓reduceIte, reduceCtorEq, eq_self, ne_eq, imp_self, forall_const, Nat.reduceEqDiff, Nat.reduceAdd, Nat.reduceSub, Nat.reduceMul, Nat.reduceLT, Nat.reduceLeDiff, Nat.reduceBEq, Nat.reduceDiv, Nat.reduceMod, Int.reduceToNat, Int.reduceNeg, Int.reduceAdd, Int.reduceSub, Int.reduceMul, Int.reduceEq, Int.reduceNe, Int.reduceLT, Int.reduceLE, Int.reduceGT, Int.reduceGE]
      refine app_opns (l := []) (rows := []) (keep := 0) (Mem.set_eq _ _ _) (Nat.zero_le _) (Nat.le_refl _) (by simp) fun id' hid' => ?_
      obtain ⟨hlt, hid'⟩ := bnd_new hid'
      simp -implicitDefEqProofs (maxSteps := 1000000) (disch := omega) only [↓xsP, ↓vc_seq, xsQ, xsT, xsR, xsD, ↓reduceIte, reduceCtorEq, eq_self, ne_eq, imp_self, forall_const, Nat.reduceEqDiff, Nat.reduceAdd, Nat.reduceSub, Nat.reduceMul, Nat.reduceLT, Nat.reduceLeDiff, Nat.reduceBEq, Nat.reduceDiv, Nat.reduceMod, Int.reduceToNat, Int.reduceNeg, Int.reduceAdd, Int.reduceSub, Int.reduceMul, Int.reduceEq, Int.reduceNe, Int.reduceLT, Int.reduceLE, Int.reduceGT, Int.reduceGE]
      exact finI_of (XFin.le (le_clone (hid _ (Nat.le_refl _))) (.inr ⟨id', hid', rfl, rfl⟩))
  · simp -implicitDefEqProofs (maxSteps := 1000000) (disch := omega) only [↓xsP, ↓vc_seq, xsQ, xsT, xsR, xsD, ↓reduceIte, reduceCtorEq, eq_self, ne_eq, imp_self, forall_const, Nat.reduceEqDiff, Nat.reduceAdd, Nat.reduceSub, Nat.reduceMul, Nat.reduceLT, Nat.reduceLeDiff, Nat.reduceBEq, Nat.reduceDiv, Nat.reduceMod, Int.reduceToNat, Int.reduceNeg, Int.reduceAdd, Int.reduceSub, Int.reduceMul, Int.reduceEq, Int.reduceNe, Int.reduceLT, Int.reduceLE, Int.reduceGT, Int.reduceGE]
    refine newI_intro fun id hid => ?_
    simp -implicitDefEqProofs (maxSteps := 1000000) (disch := omega) only [↓xsP, ↓vc_seq, xsQ, xsT, xsR, xsD, ↓reduceIte, reduceCtorEq, eq_self, ne_eq, imp_self, forall_const, Nat.reduceEqDiff, Nat.reduceAdd, Nat.reduceSub, Nat.reduceMul, Nat.reduceLT, Nat.reduceLeDiff, Nat.reduceBEq, Nat.reduceDiv, Nat.reduceMod, Int.reduceToNat, Int.reduceNeg, Int.reduceAdd, Int.reduceSub, Int.reduceMul, Int.reduceEq, Int.reduceNe, Int.reduceLT, Int.reduceLE, Int.reduceGT, Int.reduceGE]
    refine app_opns (l := l) (rows := []) (keep := 0) (Mem.set_eq _ _ _) (Nat.zero_le _) (Nat.le_refl _) (by omega) fun id' hid' => ?_
    obtain ⟨hlt, hid'⟩ := bnd_new hid'
    simp -implicitDefEqProofs (maxSteps := 1000000) (disch := omega) only [↓xsP, ↓vc_seq, xsQ, xsT, xsR, xsD, ↓reduceIte, reduceCtorEq, eq_self, ne_eq, imp_self, forall_const, Nat.reduceEqDiff, Nat.reduceAdd, Nat.reduceSub, Nat.reduceMul, Nat.reduceLT, Nat.reduceLeDiff, Nat.reduceBEq, Nat.reduceDiv, Nat.reduceMod, Int.reduceToNat, Int.reduceNeg, Int.reduceAdd, Int.reduceSub, Int.reduceMul, Int.reduceEq, Int.reduceNe, Int.reduceLT, Int.reduceLE, Int.reduceGT, Int.reduceGE]
    exact finI_of (XFin.le (le_clone (hid _ (Nat.le_refl _))) (.inr ⟨id', hid', rfl, rfl⟩))
/-- A copy, kept. -/
theorem cloneO_spec (l : List Opn) (hl : l.length ≤ 1000001) (M : Mem) :
    XCalls Go.Proofs.Try.prog 37 [.l (.sl (l.map Opn.row))] M fun r M' => r = .l (.sl (l.map Opn.row)) ∧ M' = M := by
  refine (cloneO_live l hl M).fin ?_
  rintro v M' (⟨rfl, rfl, rfl⟩ | ⟨id, hid, rfl, rfl⟩)
  · exact XFin.wk (XFin.here ⟨rfl, rfl⟩)
  · refine XFin.frz id (Mem.set_eq _ _ _) (XFin.le ?_ ⟨?_, rfl⟩)
    · exact le_new (le_new (Mem.le_refl _) hid) hid
    · simp [frzA, frz1, frzL, List.take_of_length_le]
theorem pidxO_cases (q : Opn → Bool) : ∀ (l : List Opn) (i : Nat), (pidxO q l i = -1 ∧ ∀ p ∈ l, q p = false) ∨ ∃ k, k < l.length ∧ pidxO q l i = (i : Int) + k ∧ q (l.getD k default) = true ∧ ∀ p ∈ l.take k, q p = false
  | [], i => .inl ⟨rfl, fun p hp => by cases hp⟩
  | p :: r, i => by
    simp only [pidxO]
    cases hq : q p with
    | true => exact .inr ⟨0, by simp, by simp, by simpa using hq, fun p hp => by simp at hp⟩
    | false =>
      rcases pidxO_cases q r (i + 1) with ⟨h1, h2⟩ | ⟨k, hk, h1, h2, h3⟩
      · refine .inl ⟨by simpa using h1, fun x hx => ?_⟩
        rcases List.mem_cons.1 hx with rfl | hx
        · exact hq
        · exact h2 x hx
      · refine .inr ⟨k + 1, by simpa using hk, ?_, by simpa using h2, fun x hx => ?_⟩
        · simp only [Bool.false_eq_true, if_false]
          rw [h1]
          omega
        · rw [List.take_succ_cons] at hx
          rcases List.mem_cons.1 hx with rfl | hx
          · exact hq
          · exact h3 x hx
/-- The pairs that stay. -/
def staysO (q : Opn → Bool) (l : List Opn) : List Opn := l.filter fun p => !q p
theorem staysO_all {q : Opn → Bool} {l : List Opn} (h : ∀ p ∈ l, q p = false) : staysO q l = l := List.filter_eq_self.2 fun p hp => by simp [h p hp]
theorem staysO_snoc (q : Opn → Bool) (l : List Opn) {j : Nat} (hj : j < l.length) : staysO q (l.take (j + 1)) = staysO q (l.take j) ++ (if q (l.getD j default) then [] else [l.getD j default]) := by
  have : l.take (j + 1) = l.take j ++ [l.getD j default] := by
    rw [List.take_add_one, List.getD_eq_getElem?_getD, List.getElem?_eq_getElem hj]
    rfl
  rw [this, staysO, List.filter_append, staysO]
  congr 1
  cases hq : q (l.getD j default) <;> simp [hq, -List.getD_eq_getElem?_getD]
theorem deleteO_spec (l : List Opn) (hl : l.length ≤ 1000001) (id : Nat) (M : Mem) (hM : M id = some (.cells 34 (l.map Opn.row) 0)) (f : FuncId) (caps : List Lf) (q : Opn → Bool)
    (hq : ∀ p M', (∀ j b, j ≠ id → M j = some b → M' j = some b) → XCalls Go.Proofs.Try.prog f ([.agg p.row] ++ caps.map .l) M' fun r M'' => r = .l (.bool (q p)) ∧ M'' = M') :
    XCalls Go.Proofs.Try.prog 36 [.l (.ms id 0 l.length), .l (.clo f caps)] M fun r M' => ∃ R : List Opn, r = .l (.ms id 0 (staysO q l).length) ∧ M' = M.set id (.cells 34 (R.map Opn.row) 0) ∧ R.take (staysO q l).length = staysO q l ∧ (staysO q l).length ≤ R.length := by
  refine xcalls_intro (rs := [.tmp 4]) Go.Proofs.Try.func36 rfl (by kernel_rfl) rfl rfl (by kernel_rfl) (by simp) ?_
  simp -implicitDefEqProofs (maxSteps := 1000000) (disch := omega) only [↓xsP, ↓vc_seq, xsQ, xsT, xsR, xsD, ↓reduceIte, reduceCtorEq, eq_self, ne_eq, imp_self, forall_const, Nat.reduceEqDiff, Nat.reduceAdd, Nat.reduceSub, Nat.reduceMul, Nat.reduceLT, Nat.reduceLeDiff, Nat.reduceBEq, Nat.reduceDiv, Nat.reduceMod, Int.reduceToNat, Int.reduceNeg, Int.reduceAdd, Int.reduceSub, Int.reduceMul, Int.reduceEq, Int.reduceNe, Int.reduceLT, Int.reduceLE, Int.reduceGT, Int.reduceGE]
  refine call_of (indexO_spec l (by omega) _ _ (.inr ⟨id, 0, rfl, hM⟩) _ _ q fun p => hq p M fun j b _ h => h) ?_
  have hset : M.set id (.cells 34 (l.map Opn.row) 0) = M := by
    funext i
    rw [Mem.set_app]
    split
    · rename_i e; subst e; exact hM.symm
    · rfl
  rcases pidxO_cases q l 0 with ⟨h1, h2⟩ | ⟨k, hk, h1, h2, h3⟩
  · rw [h1]
    simp -implicitDefEqProofs (maxSteps := 1000000) (disch := omega) only [↓xsP, ↓vc_seq, xsQ, xsT, xsR, xsD, ↓reduceIte, reduceCtorEq, eq_self, ne_eq, imp_self, forall_const, Nat.reduceEqDiff, Nat.reduceAdd, Nat.reduceSub, Nat.reduceMul, Nat.reduceLT, Nat.reduceLeDiff, Nat.reduceBEq, Nat.reduceDiv, Nat.reduceMod, Int.reduceToNat, Int.reduceNeg, Int.reduceAdd, Int.reduceSub, Int.reduceMul, Int.reduceEq, Int.reduceNe, Int.reduceLT, Int.reduceLE, Int.reduceGT, Int.reduceGE]
    refine finI_of (XFin.here ⟨l, by rw [staysO_all h2], hset.symm, by rw [staysO_all h2, List.take_length], by rw [staysO_all h2]; exact Nat.le_refl _⟩)
  · rw [h1]
    have hk1 : ((0 : Nat) : Int) + (k : Int) = (k : Int) := by omega
    rw [hk1]
    have hkn : ((k : Int) = -1) = False := eq_false (by omega)
    simp -implicitDefEqProofs (maxSteps := 1000000) (disch := omega) only [↓xsP, ↓vc_seq, xsQ, xsT, xsR, xsD, ↓reduceIte, reduceCtorEq, eq_self, ne_eq, imp_self, forall_const, Nat.reduceEqDiff, Nat.reduceAdd, Nat.reduceSub, Nat.reduceMul, Nat.reduceLT, Nat.reduceLeDiff, Nat.reduceBEq, Nat.reduceDiv, Nat.reduceMod, Int.reduceToNat, Int.reduceNeg, Int.reduceAdd, Int.reduceSub, Int.reduceMul, Int.reduceEq, Int.reduceNe, Int.reduceLT, Int.reduceLE, Int.reduceGT, Int.reduceGE, hkn]
    have hst0 : staysO q (l.take (k + 1)) = l.take k := by
      rw [staysO_snoc q l hk, h2, if_pos rfl, List.append_nil, staysO_all h3]
    refine loopI_of (xloop (by kernel_rfl) (fun r fr M' => ∃ (j i : Nat) (R : List Opn), i < j ∧ j ≤ l.length ∧ r = l.length - j ∧ fr 0 = .l (.ms id 0 l.length) ∧ fr 1 = .l (.clo f caps) ∧ fr 5 = .l (.int .i64 i) ∧ fr 6 = .l (.int .i64 j) ∧
      R.length = l.length ∧ R.take i = staysO q (l.take j) ∧ i = (staysO q (l.take j)).length ∧ R.drop j = l.drop j ∧ M' = M.set id (.cells 34 (R.map Opn.row) 0)) (l.length - (k + 1)) ?_ ?_)
    · exact ⟨k + 1, k, l, by omega, by omega, rfl, by simp -implicitDefEqProofs (maxSteps := 1000000) (disch := omega) only [↓xsP, ↓vc_seq, xsQ, xsT, xsR, xsD, ↓reduceIte, reduceCtorEq, eq_self, ne_eq, imp_self, forall_const, Nat.reduceEqDiff, Nat.reduceAdd, Nat.reduceSub, Nat.reduceMul, Nat.reduceLT, Nat.reduceLeDiff, Nat.reduceBEq, Nat.reduceDiv, Nat.reduceMod, Int.reduceToNat, Int.reduceNeg, Int.reduceAdd, Int.reduceSub, Int.reduceMul, Int.reduceEq, Int.reduceNe, Int.reduceLT, Int.reduceLE, Int.reduceGT, Int.reduceGE], by simp -implicitDefEqProofs (maxSteps := 1000000) (disch := omega) only [↓xsP, ↓vc_seq, xsQ, xsT, xsR, xsD, ↓reduceIte, reduceCtorEq, eq_self, ne_eq, imp_self, forall_const, Nat.reduceEqDiff, Nat.reduceAdd, Nat.reduceSub, Nat.reduceMul, Nat.reduceLT, Nat.reduceLeDiff, Nat.reduceBEq, Nat.reduceDiv, Nat.reduceMod, Int.reduceToNat, Int.reduceNeg, Int.reduceAdd, Int.reduceSub, Int.reduceMul, Int.reduceEq, Int.reduceNe, Int.reduceLT, Int.reduceLE, Int.reduceGT, Int.reduceGE], by simp -implicitDefEqProofs (maxSteps := 1000000) (disch := omega) only [↓xsP, ↓vc_seq, xsQ, xsT, xsR, xsD, ↓reduceIte, reduceCtorEq, eq_self, ne_eq, imp_self, forall_const, Nat.reduceEqDiff, Nat.reduceAdd, Nat.reduceSub, Nat.reduceMul, Nat.reduceLT, Nat.reduceLeDiff, Nat.reduceBEq, Nat.reduceDiv, Nat.reduceMod, Int.reduceToNat, Int.reduceNeg, Int.reduceAdd, Int.reduceSub, Int.reduceMul, Int.reduceEq, Int.reduceNe, Int.reduceLT, Int.reduceLE, Int.reduceGT, Int.reduceGE], by simp -implicitDefEqProofs (maxSteps := 1000000) (disch := omega) only [↓xsP, ↓vc_seq, xsQ, xsT, xsR, xsD, ↓reduceIte, reduceCtorEq, eq_self, ne_eq, imp_self, forall_const, Nat.reduceEqDiff, Nat.reduceAdd, Nat.reduceSub, Nat.reduceMul, Nat.reduceLT, Nat.reduceLeDiff, Nat.reduceBEq, Nat.reduceDiv, Nat.reduceMod, Int.reduceToNat, Int.reduceNeg, Int.reduceAdd, Int.reduceSub, Int.reduceMul, Int.reduceEq, Int.reduceNe, Int.reduceLT, Int.reduceLE, Int.reduceGT, Int.reduceGE, Int.natCast_add, Int.cast_ofNat_Int], rfl, hst0.symm, by rw [hst0]; simp; omega, rfl, hset.symm⟩
    · rintro r fr M' ⟨j, i, R, hij, hj, rfl, h0, h1, h5, h6, hR, hRt, hil, hRd, rfl⟩
      simp -implicitDefEqProofs (maxSteps := 1000000) (disch := omega) only [↓xsP, ↓vc_seq, xsQ, xsT, xsR, xsD, ↓reduceIte, reduceCtorEq, eq_self, ne_eq, imp_self, forall_const, Nat.reduceEqDiff, Nat.reduceAdd, Nat.reduceSub, Nat.reduceMul, Nat.reduceLT, Nat.reduceLeDiff, Nat.reduceBEq, Nat.reduceDiv, Nat.reduceMod, Int.reduceToNat, Int.reduceNeg, Int.reduceAdd, Int.reduceSub, Int.reduceMul, Int.reduceEq, Int.reduceNe, Int.reduceLT, Int.reduceLE, Int.reduceGT, Int.reduceGE, h0, h1, h5, h6]
      refine condI_prop (fun hlt => ?_) (fun hlt => ?_)
      · have hj' : j < l.length := by omega
        have hRj : R.getD j default = l.getD j default := by
          have := congrArg (fun x => x[0]?) hRd
          simp only [List.getElem?_drop, Nat.add_zero] at this
          rw [List.getD_eq_getElem?_getD, List.getD_eq_getElem?_getD, this]
        have hM' := Mem.set_eq M id (.cells 34 (R.map Opn.row) 0)
        have hold : ∀ j b, j ≠ id → M j = some b → (M.set id (.cells 34 (R.map Opn.row) 0)) j = some b := fun j b hj hb => by rw [Mem.set_ne _ _ _ _ (Ne.symm hj)]; exact hb
        generalize M.set id (.cells 34 (R.map Opn.row) 0) = N at hM' hold ⊢
        simp -implicitDefEqProofs (maxSteps := 1000000) (disch := omega) only [↓xsP, ↓vc_seq, xsQ, xsT, xsR, xsD, ↓reduceIte, reduceCtorEq, eq_self, ne_eq, imp_self, forall_const, Nat.reduceEqDiff, Nat.reduceAdd, Nat.reduceSub, Nat.reduceMul, Nat.reduceLT, Nat.reduceLeDiff, Nat.reduceBEq, Nat.reduceDiv, Nat.reduceMod, Int.reduceToNat, Int.reduceNeg, Int.reduceAdd, Int.reduceSub, Int.reduceMul, Int.reduceEq, Int.reduceNe, Int.reduceLT, Int.reduceLE, Int.reduceGT, Int.reduceGE, h0, h1, h5, h6, hM']
        refine newI_intro fun id7 hid7 => ?_
        have h7 : id < id7 := lt_of_bnd hid7 hM'
        simp -implicitDefEqProofs (maxSteps := 1000000) (disch := omega) only [↓xsP, ↓vc_seq, xsQ, xsT, xsR, xsD, ↓reduceIte, reduceCtorEq, eq_self, ne_eq, imp_self, forall_const, Nat.reduceEqDiff, Nat.reduceAdd, Nat.reduceSub, Nat.reduceMul, Nat.reduceLT, Nat.reduceLeDiff, Nat.reduceBEq, Nat.reduceDiv, Nat.reduceMod, Int.reduceToNat, Int.reduceNeg, Int.reduceAdd, Int.reduceSub, Int.reduceMul, Int.reduceEq, Int.reduceNe, Int.reduceLT, Int.reduceLE, Int.reduceGT, Int.reduceGE, h0, h1, h5, h6, hM', hRj]
        refine call_of (hq (l.getD j default) _ fun j' b hj' hb => ?_) ?_
        · have := hold j' b hj' hb
          rw [Mem.set_ne _ _ _ _ (by have := lt_of_bnd hid7 this; omega)]
          exact this
        · have hRd1 : R.drop (j + 1) = l.drop (j + 1) := by
            have := congrArg (List.drop 1) hRd
            simpa [List.drop_drop] using this
          have hsn := staysO_snoc q l hj'
          have hiR : i < R.length := by omega
          cases hb : q (l.getD j default) with
          | true =>
            rw [hb, if_pos rfl, List.append_nil] at hsn
            simp -implicitDefEqProofs (maxSteps := 1000000) (disch := omega) only [↓xsP, ↓vc_seq, xsQ, xsT, xsR, xsD, ↓reduceIte, reduceCtorEq, eq_self, ne_eq, imp_self, forall_const, Nat.reduceEqDiff, Nat.reduceAdd, Nat.reduceSub, Nat.reduceMul, Nat.reduceLT, Nat.reduceLeDiff, Nat.reduceBEq, Nat.reduceDiv, Nat.reduceMod, Int.reduceToNat, Int.reduceNeg, Int.reduceAdd, Int.reduceSub, Int.reduceMul, Int.reduceEq, Int.reduceNe, Int.reduceLT, Int.reduceLE, Int.reduceGT, Int.reduceGE, h0, h1, h5, h6, hM']
            refine ⟨l.length - (j + 1), M.set id (.cells 34 (R.map Opn.row) 0), by omega, fun i' b hb' => ?_, j + 1, i, R, by omega, by omega, rfl, rfl, by simp, hR, by rw [hsn]; exact hRt, by rw [hsn]; exact hil, hRd1, rfl⟩
            have hN : N i' = some b := by
              rw [Mem.set_app] at hb'
              split at hb'
              · rename_i e; subst e; rw [hM']; exact hb'
              · rename_i e; exact hold _ _ (fun e' => e e'.symm) hb'
            rw [Mem.set_ne _ _ _ _ (by have := lt_of_bnd hid7 hN; omega)]
            exact hN
          | false =>
            rw [hb] at hsn
            simp only [Bool.false_eq_true, if_false] at hsn
            simp -implicitDefEqProofs (maxSteps := 1000000) (disch := omega) only [↓xsP, ↓vc_seq, xsQ, xsT, xsR, xsD, ↓reduceIte, reduceCtorEq, eq_self, ne_eq, imp_self, forall_const, Nat.reduceEqDiff, Nat.reduceAdd, Nat.reduceSub, Nat.reduceMul, Nat.reduceLT, Nat.reduceLeDiff, Nat.reduceBEq, Nat.reduceDiv, Nat.reduceMod, Int.reduceToNat, Int.reduceNeg, Int.reduceAdd, Int.reduceSub, Int.reduceMul, Int.reduceEq, Int.reduceNe, Int.reduceLT, Int.reduceLE, Int.reduceGT, Int.reduceGE, h0, h1, h5, h6, hM']
            have hset' : (R.map Opn.row).set i [.int .i64 (l.getD j default).kind, .int .i64 (l.getD j default).key, .int .i64 (l.getD j default).to, .int .i64 (l.getD j default).val] = (R.set i (l.getD j default)).map Opn.row := by rw [List.map_set]; rfl
            rw [hset']
            refine ⟨l.length - (j + 1), M.set id (.cells 34 ((R.set i (l.getD j default)).map Opn.row) 0), by omega, fun i' b hb' => ?_, j + 1, i + 1, R.set i (l.getD j default), by omega, by omega, rfl, by simp, by simp, by simpa using hR, ?_, by rw [hsn, List.length_append, ← hil]; rfl, ?_, rfl⟩
            · rw [Mem.set_app] at hb' ⊢
              split at hb'
              · rename_i e; rw [if_pos e]; exact hb'
              · rename_i e
                rw [if_neg e]
                have hN := hold _ _ (fun e' => e e'.symm) hb'
                rw [Mem.set_ne _ _ _ _ (by have := lt_of_bnd hid7 hN; omega)]
                exact hN
            · rw [hsn, List.set_eq_take_append_cons_drop, if_pos hiR, List.take_append]
              have hlen : (R.take i).length = i := by simp; omega
              rw [hlen, List.take_of_length_le (by omega), ← hRt]
              have e1 : i + 1 - i = 1 := by omega
              rw [e1]
              rfl
            · rw [List.drop_set, if_pos (by omega)]
              exact hRd1
      · have hjl : j = l.length := by omega
        subst hjl
        rw [List.take_length] at hRt hil
        have hM' := Mem.set_eq M id (.cells 34 (R.map Opn.row) 0)
        have hile : (i ≤ l.length) = True := eq_true (by omega)
        have hi0 : (0 ≤ (i : Int)) = True := eq_true (by omega)
        by_cases hz : i = 0
        · subst hz
          simp -implicitDefEqProofs (maxSteps := 1000000) (disch := omega) only [↓xsP, ↓vc_seq, xsQ, xsT, xsR, xsD, ↓reduceIte, reduceCtorEq, eq_self, ne_eq, imp_self, forall_const, Nat.reduceEqDiff, Nat.reduceAdd, Nat.reduceSub, Nat.reduceMul, Nat.reduceLT, Nat.reduceLeDiff, Nat.reduceBEq, Nat.reduceDiv, Nat.reduceMod, Int.reduceToNat, Int.reduceNeg, Int.reduceAdd, Int.reduceSub, Int.reduceMul, Int.reduceEq, Int.reduceNe, Int.reduceLT, Int.reduceLE, Int.reduceGT, Int.reduceGE, h0, h1, h5, h6, hM', hile, hi0, hR]
          have hnil : staysO q l = [] := List.eq_nil_of_length_eq_zero hil.symm
          refine finI_of (XFin.here ⟨List.replicate l.length ⟨0, 0, 0, 0⟩ ++ R.drop l.length, by rw [hnil]; rfl, by simp [Opn.row, List.map_drop], by rw [hnil]; rfl, by rw [hnil]; exact Nat.zero_le _⟩)
        · have hz' : (i = 0) = False := eq_false hz
          have hin : (i = l.length) = False := eq_false (by omega)
          simp -implicitDefEqProofs (maxSteps := 1000000) (disch := omega) only [↓xsP, ↓vc_seq, xsQ, xsT, xsR, xsD, ↓reduceIte, reduceCtorEq, eq_self, ne_eq, imp_self, forall_const, Nat.reduceEqDiff, Nat.reduceAdd, Nat.reduceSub, Nat.reduceMul, Nat.reduceLT, Nat.reduceLeDiff, Nat.reduceBEq, Nat.reduceDiv, Nat.reduceMod, Int.reduceToNat, Int.reduceNeg, Int.reduceAdd, Int.reduceSub, Int.reduceMul, Int.reduceEq, Int.reduceNe, Int.reduceLT, Int.reduceLE, Int.reduceGT, Int.reduceGE, h0, h1, h5, h6, hM', hile, hi0, hz', hin, hR]
          have hsum : (i + (l.length - i) ≤ l.length) = True := eq_true (by omega)
          simp -implicitDefEqProofs (maxSteps := 1000000) (disch := omega) only [↓xsP, ↓vc_seq, xsQ, xsT, xsR, xsD, ↓reduceIte, reduceCtorEq, eq_self, ne_eq, imp_self, forall_const, Nat.reduceEqDiff, Nat.reduceAdd, Nat.reduceSub, Nat.reduceMul, Nat.reduceLT, Nat.reduceLeDiff, Nat.reduceBEq, Nat.reduceDiv, Nat.reduceMod, Int.reduceToNat, Int.reduceNeg, Int.reduceAdd, Int.reduceSub, Int.reduceMul, Int.reduceEq, Int.reduceNe, Int.reduceLT, Int.reduceLE, Int.reduceGT, Int.reduceGE, h0, h1, h5, h6, hsum, hi0, hile, hz', hin]
          have hlen : (R.take i).length = i := by simp; omega
          refine finI_of (XFin.here ⟨R.take i ++ List.replicate (l.length - i) ⟨0, 0, 0, 0⟩ ++ R.drop (i + (l.length - i)), by rw [← hil], by simp [Opn.row, List.map_drop, List.map_take], ?_, by rw [← hil]; simp; omega⟩)
          rw [← hil, List.append_assoc, List.take_append, hlen, Nat.sub_self, List.take_zero, List.append_nil, List.take_of_length_le (by omega)]
          exact hRt
theorem deleteO_none (M : Mem) (f : FuncId) (caps : List Lf) (q : Opn → Bool) (hq : ∀ p, XCalls Go.Proofs.Try.prog f ([.agg p.row] ++ caps.map .l) M fun r M' => r = .l (.bool (q p)) ∧ M' = M) :
    XCalls Go.Proofs.Try.prog 36 [.l (.sl []), .l (.clo f caps)] M fun r M' => r = .l (.sl []) ∧ M' = M := by
  refine xcalls_intro (rs := [.tmp 4]) Go.Proofs.Try.func36 rfl (by kernel_rfl) rfl rfl (by kernel_rfl) (by simp) ?_
  simp -implicitDefEqProofs (maxSteps := 1000000) (disch := omega) only [↓xsP, ↓vc_seq, xsQ, xsT, xsR, xsD, ↓reduceIte, reduceCtorEq, eq_self, ne_eq, imp_self, forall_const, Nat.reduceEqDiff, Nat.reduceAdd, Nat.reduceSub, Nat.reduceMul, Nat.reduceLT, Nat.reduceLeDiff, Nat.reduceBEq, Nat.reduceDiv, Nat.reduceMod, Int.reduceToNat, Int.reduceNeg, Int.reduceAdd, Int.reduceSub, Int.reduceMul, Int.reduceEq, Int.reduceNe, Int.reduceLT, Int.reduceLE, Int.reduceGT, Int.reduceGE]
  refine call_of (indexO_spec [] (by simp) _ _ (.inl rfl) _ _ q hq) ?_
  simp -implicitDefEqProofs (maxSteps := 1000000) (disch := omega) only [↓xsP, ↓vc_seq, xsQ, xsT, xsR, xsD, ↓reduceIte, reduceCtorEq, eq_self, ne_eq, imp_self, forall_const, Nat.reduceEqDiff, Nat.reduceAdd, Nat.reduceSub, Nat.reduceMul, Nat.reduceLT, Nat.reduceLeDiff, Nat.reduceBEq, Nat.reduceDiv, Nat.reduceMod, Int.reduceToNat, Int.reduceNeg, Int.reduceAdd, Int.reduceSub, Int.reduceMul, Int.reduceEq, Int.reduceNe, Int.reduceLT, Int.reduceLE, Int.reduceGT, Int.reduceGE, pidxO]
  exact fin_ok (Mem.le_refl _) ⟨rfl, rfl⟩
/-- Room for so many pairs. -/
theorem growO_spec (n : Nat) (hn : n ≤ 2000002) (M : Mem) :
    XCalls Go.Proofs.Try.prog 61 [.l .nils, .l (.int .i64 n)] M fun r M' => (r = .l .nils ∧ n = 0 ∧ M' = M) ∨ ∃ id, (∀ j, id ≤ j → M j = none) ∧ r = .l (.ms id 0 0) ∧ M' = M.set id (.cells 34 (List.replicate n [.int .i64 0, .int .i64 0, .int .i64 0, .int .i64 0]) 0) := by
  refine xcalls_intro (rs := [.tmp 4]) Go.Proofs.Try.func61 rfl (by kernel_rfl) rfl rfl (by kernel_rfl) (by simp) ?_
  have h0 : ((n : Int) < 0) = False := eq_false (by omega)
  simp -implicitDefEqProofs (maxSteps := 1000000) (disch := omega) only [↓xsP, ↓vc_seq, xsQ, xsT, xsR, xsD, ↓reduceIte, reduceCtorEq, eq_self, ne_eq, imp_self, forall_const, Nat.reduceEqDiff, Nat.reduceAdd, Nat.reduceSub, Nat.reduceMul, Nat.reduceLT, Nat.reduceLeDiff, Nat.reduceBEq, Nat.reduceDiv, Nat.reduceMod, Int.reduceToNat, Int.reduceNeg, Int.reduceAdd, Int.reduceSub, Int.reduceMul, Int.reduceEq, Int.reduceNe, Int.reduceLT, Int.reduceLE, Int.reduceGT, Int.reduceGE, h0]
  have hn0 : (n : Int) - 0 = n := by omega
  rw [hn0]
  refine condI_prop (fun hp => ?_) (fun hp => ?_)
  · simp -implicitDefEqProofs (maxSteps := 1000000) (disch := omega) only [↓xsP, ↓vc_seq, xsQ, xsT, xsR, xsD, ↓reduceIte, reduceCtorEq, eq_self, ne_eq, imp_self, forall_const, Nat.reduceEqDiff, Nat.reduceAdd, Nat.reduceSub, Nat.reduceMul, Nat.reduceLT, Nat.reduceLeDiff, Nat.reduceBEq, Nat.reduceDiv, Nat.reduceMod, Int.reduceToNat, Int.reduceNeg, Int.reduceAdd, Int.reduceSub, Int.reduceMul, Int.reduceEq, Int.reduceNe, Int.reduceLT, Int.reduceLE, Int.reduceGT, Int.reduceGE]
    refine app_zeros _ _ _ _ 34 _ _ _ ti_32 rfl ti_3 rfl ti_34 (by kernel_rfl) rfl rfl (by decide) _ (by omega) ?_ (by omega) fun id hid => ?_
    · exact Nat.le_trans (Nat.mul_le_mul_right _ (show (n : Int).toNat ≤ 2000002 by omega)) (by decide)
    · simp -implicitDefEqProofs (maxSteps := 1000000) (disch := omega) only [↓xsP, ↓vc_seq, xsQ, xsT, xsR, xsD, ↓reduceIte, reduceCtorEq, eq_self, ne_eq, imp_self, forall_const, Nat.reduceEqDiff, Nat.reduceAdd, Nat.reduceSub, Nat.reduceMul, Nat.reduceLT, Nat.reduceLeDiff, Nat.reduceBEq, Nat.reduceDiv, Nat.reduceMod, Int.reduceToNat, Int.reduceNeg, Int.reduceAdd, Int.reduceSub, Int.reduceMul, Int.reduceEq, Int.reduceNe, Int.reduceLT, Int.reduceLE, Int.reduceGT, Int.reduceGE]
      refine finI_of (XFin.here (.inr ⟨id, hid, rfl, rfl⟩))
  · simp -implicitDefEqProofs (maxSteps := 1000000) (disch := omega) only [↓xsP, ↓vc_seq, xsQ, xsT, xsR, xsD, ↓reduceIte, reduceCtorEq, eq_self, ne_eq, imp_self, forall_const, Nat.reduceEqDiff, Nat.reduceAdd, Nat.reduceSub, Nat.reduceMul, Nat.reduceLT, Nat.reduceLeDiff, Nat.reduceBEq, Nat.reduceDiv, Nat.reduceMod, Int.reduceToNat, Int.reduceNeg, Int.reduceAdd, Int.reduceSub, Int.reduceMul, Int.reduceEq, Int.reduceNe, Int.reduceLT, Int.reduceLE, Int.reduceGT, Int.reduceGE]
    have : n = 0 := by omega
    exact fin_ok (Mem.le_refl _) (.inl ⟨rfl, this, rfl⟩)

/-! ### slices.Concat -/
theorem lenA_srcO {M : Mem} {s : Lf} {l : List Opn} (h : SrcIsO M s l) : lenA Go.Proofs.Try.prog M 32 (.l s) = some (.l (.int .i64 l.length)) := by
  rcases h with rfl | ⟨id, keep, rfl, hM⟩ <;> simp -implicitDefEqProofs (maxSteps := 1000000) (disch := omega) only [↓xsP, ↓vc_seq, xsQ, xsT, xsR, xsD, ↓reduceIte, reduceCtorEq, eq_self, ne_eq, imp_self, forall_const, Nat.reduceEqDiff, Nat.reduceAdd, Nat.reduceSub, Nat.reduceMul, Nat.reduceLT, Nat.reduceLeDiff, Nat.reduceBEq, Nat.reduceDiv, Nat.reduceMod, Int.reduceToNat, Int.reduceNeg, Int.reduceAdd, Int.reduceSub, Int.reduceMul, Int.reduceEq, Int.reduceNe, Int.reduceLT, Int.reduceLE, Int.reduceGT, Int.reduceGE]
theorem src_srcO {M : Mem} {s : Lf} {l : List Opn} (h : SrcIsO M s l) {te : TI} (hs : te.size = 4) : srcRows Go.Proofs.Try.prog M 32 32 34 te (.l s) = some (l.map Opn.row) := by
  rcases h with rfl | ⟨id, keep, rfl, hM⟩
  · simp -implicitDefEqProofs (maxSteps := 1000000) (disch := omega) only [↓xsP, ↓vc_seq, xsQ, xsT, xsR, xsD, ↓reduceIte, reduceCtorEq, eq_self, ne_eq, imp_self, forall_const, Nat.reduceEqDiff, Nat.reduceAdd, Nat.reduceSub, Nat.reduceMul, Nat.reduceLT, Nat.reduceLeDiff, Nat.reduceBEq, Nat.reduceDiv, Nat.reduceMod, Int.reduceToNat, Int.reduceNeg, Int.reduceAdd, Int.reduceSub, Int.reduceMul, Int.reduceEq, Int.reduceNe, Int.reduceLT, Int.reduceLE, Int.reduceGT, Int.reduceGE]
    rw [hs, if_pos (rows4 l)]
  · simp -implicitDefEqProofs (maxSteps := 1000000) (disch := omega) only [↓xsP, ↓vc_seq, xsQ, xsT, xsR, xsD, ↓reduceIte, reduceCtorEq, eq_self, ne_eq, imp_self, forall_const, Nat.reduceEqDiff, Nat.reduceAdd, Nat.reduceSub, Nat.reduceMul, Nat.reduceLT, Nat.reduceLeDiff, Nat.reduceBEq, Nat.reduceDiv, Nat.reduceMod, Int.reduceToNat, Int.reduceNeg, Int.reduceAdd, Int.reduceSub, Int.reduceMul, Int.reduceEq, Int.reduceNe, Int.reduceLT, Int.reduceLE, Int.reduceGT, Int.reduceGE, hM]
    rw [List.take_of_length_le (by simp)]
theorem app_srcO {M : Mem} {s : Lf} {l : List Opn} (h : SrcIsO M s l) {id len : Nat} {rows : List (List Lf)} {keep : Nat} (hM : M id = some (.cells 34 rows keep)) (hlen : len ≤ rows.length) (hk : keep ≤ len) (hb : len + l.length ≤ 2000002) {K : AV → Mem → Prop}
    (hc : ∀ id', (∀ j, id' ≤ j → M j = none) → K (.l (.ms id' 0 (len + l.length))) ((M.del id).set id' (.cells 34 (rows.take len ++ l.map Opn.row) keep))) :
    @appI Go.Proofs.Try.prog M 32 32 (.l (.ms id 0 len)) (.l s) ⟨K⟩ := by
  refine app_ms _ _ _ _ 34 _ _ ti_32 rfl ti_34 (by kernel_rfl) (by decide) id len _ (rows := rows) (keep := keep) (l.map Opn.row) hM (src_srcO h rfl) hlen hk ?_ ?_ ?_
  · exact Nat.le_trans (Nat.mul_le_mul_right _ (show len + (l.map Opn.row).length ≤ 2000002 by simpa using hb)) (by decide)
  · simp
    omega
  · simpa using hc
theorem app_srcO_nil {M : Mem} {s : Lf} (h : SrcIsO M s []) {K : AV → Mem → Prop} (hc : K (.l .nils) M) : @appI Go.Proofs.Try.prog M 32 32 (.l .nils) (.l s) ⟨K⟩ :=
  app_nils _ _ _ _ 34 _ _ ti_32 rfl ti_34 (by kernel_rfl) (by decide) _ [] (src_srcO h rfl) (by simp) (by simp) (fun _ => hc) (fun h => absurd rfl h)
/-- So many pairs in the first rows. -/
def totO (L : List (List Opn)) : Nat := L.flatten.length
theorem totO_take {L : List (List Opn)} {i : Nat} (hi : i < L.length) : (L.take (i + 1)).flatten = (L.take i).flatten ++ L.getD i [] := by
  rw [List.take_add_one, List.flatten_append, List.getD_eq_getElem?_getD, List.getElem?_eq_getElem hi]
  simp
theorem totO_le (L : List (List Opn)) (i : Nat) : (L.take i).flatten.length ≤ L.flatten.length := by
  conv => rhs; rw [← List.take_append_drop i L]
  rw [List.flatten_append, List.length_append]
  omega
end Go.X
