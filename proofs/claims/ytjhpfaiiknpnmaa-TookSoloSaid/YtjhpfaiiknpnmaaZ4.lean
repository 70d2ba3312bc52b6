/- Texts joined: Ve Vf Ta Tb Tc Td Te Ma Tf Wd Mb Mc Md Wf Oa Ob Oc. -/
import Derived.Test.YtjhpfaiiknpnmaaZ3

/- What leaf.Do does. -/

set_option linter.unusedVariables false
set_option linter.unusedSimpArgs false
set_option maxHeartbeats 20000000
set_option maxRecDepth 100000
namespace Go.X
open Go.Proofs.Try (prog)

noncomputable def okOp (l : List Pr) (op : Opn) : Bool := bof (Rises l) && mayOpB op
def inRange (l : List Pr) (op : Opn) : List Pr := stays (outside op.key op.to) l
noncomputable def doL (l : List Pr) (op : Opn) : List Pr := if okOp l op = false then l else if op.kind = 1 ∨ op.kind = 2 ∨ op.kind = 3 then oneL l op else l
noncomputable def doA (l : List Pr) (op : Opn) : Ans :=
  if okOp l op = false then ⟨1, false, ⟨0, 0⟩, 0, []⟩
  else if op.kind = 5 then ⟨0, false, ⟨0, 0⟩, (inRange l op).length, inRange l op⟩
  else if op.kind = 6 then ⟨0, false, ⟨0, 0⟩, (inRange l op).length, []⟩
  else if op.kind = 7 then (if l = [] then ans0 else ⟨0, true, l.getD 0 default, 0, []⟩)
  else if op.kind = 8 then (if l = [] then ans0 else ⟨0, true, l.getD (l.length - 1) default, 0, []⟩)
  else ansAt l (place l op.key)

theorem oneL_get {l : List Pr} {op : Opn} (h1 : op.kind ≠ 1) (h2 : op.kind ≠ 2) (h3 : op.kind ≠ 3) : oneL l op = l := by
  rw [oneL, if_neg (by simp [h1, h2]), if_neg (by simp [h3])]
theorem stays_len (q : Pr → Bool) (l : List Pr) : (stays q l).length ≤ l.length := List.length_filter_le _ _

def DoMid (l : List Pr) (op : Opn) (M : Mem) (id5 id6 : Nat) (N : Mem) : Prop :=
  doL l op = l ∧ M.le N ∧ N id5 = some (.cells 29 [arow ans0] 0) ∧ ∃ a b c d e f, N id6 = some (.cells 29 [[a, b, c, d, e, f]] 0) ∧ [a, b, c, d, e, f].map wkL = (doA l op).row
theorem doMid_set {l : List Pr} {op : Opn} {M N : Mem} {id5 id6 : Nat} {a b c d e f : Lf} (h : doL l op = l) (hle : M.le N) (h6 : M id6 = none) (hne : id6 ≠ id5) (h5 : N id5 = some (.cells 29 [arow ans0] 0)) (hw : [a, b, c, d, e, f].map wkL = (doA l op).row) :
    DoMid l op M id5 id6 (N.set id6 (.cells 29 [[a, b, c, d, e, f]] 0)) :=
  ⟨h, Mem.le_set hle h6, by rw [Mem.set_ne _ _ _ _ hne]; exact h5, a, b, c, d, e, f, Mem.set_eq _ _ _, hw⟩

theorem do_spec (l : List Pr) (hl : l.length ≤ 1000001) (op : Opn) (M : Mem) :
    XCalls Go.Proofs.Try.prog 55 [.l (.sl (l.map Pr.row)), .agg op.row] M fun r M' => r = .tup [.l (.sl ((doL l op).map Pr.row)), .agg (doA l op).row] ∧ M' = M := by
  refine xcalls_intro (rs := [.tmp 4, .cell 5 29]) Go.Proofs.Try.func55 rfl (by kernel_rfl) rfl rfl (by kernel_rfl) (by simp) ?_
  refine vc_seq_of ?_
  simp -implicitDefEqProofs (maxSteps := 1000000) (disch := omega) only [↓xsP, xsQ, xsT, xsR, xsD, ↓reduceIte, reduceCtorEq, eq_self, ne_eq, imp_self, forall_const, Nat.reduceEqDiff, Nat.reduceAdd, Nat.reduceSub, Nat.reduceMul, Nat.reduceLT, Nat.reduceLeDiff, Nat.reduceBEq, Nat.reduceDiv, Nat.reduceMod, Int.reduceToNat, Int.reduceNeg, Int.reduceAdd, Int.reduceSub, Int.reduceMul, Int.reduceEq, Int.reduceNe, Int.reduceLT, Int.reduceLE, Int.reduceGT, Int.reduceGE]
  refine newI_intro fun id3 hid3 => ?_
  simp -implicitDefEqProofs (maxSteps := 1000000) (disch := omega) only [↓xsP, xsQ, xsT, xsR, xsD, ↓reduceIte, reduceCtorEq, eq_self, ne_eq, imp_self, forall_const, Nat.reduceEqDiff, Nat.reduceAdd, Nat.reduceSub, Nat.reduceMul, Nat.reduceLT, Nat.reduceLeDiff, Nat.reduceBEq, Nat.reduceDiv, Nat.reduceMod, Int.reduceToNat, Int.reduceNeg, Int.reduceAdd, Int.reduceSub, Int.reduceMul, Int.reduceEq, Int.reduceNe, Int.reduceLT, Int.reduceLE, Int.reduceGT, Int.reduceGE]
  refine newI_intro fun id5 hid5 => ?_
  obtain ⟨h35, hid5⟩ := bnd_new hid5
  simp -implicitDefEqProofs (maxSteps := 1000000) (disch := omega) only [↓xsP, xsQ, xsT, xsR, xsD, ↓reduceIte, reduceCtorEq, eq_self, ne_eq, imp_self, forall_const, Nat.reduceEqDiff, Nat.reduceAdd, Nat.reduceSub, Nat.reduceMul, Nat.reduceLT, Nat.reduceLeDiff, Nat.reduceBEq, Nat.reduceDiv, Nat.reduceMod, Int.reduceToNat, Int.reduceNeg, Int.reduceAdd, Int.reduceSub, Int.reduceMul, Int.reduceEq, Int.reduceNe, Int.reduceLT, Int.reduceLE, Int.reduceGT, Int.reduceGE]
  have hend : ∀ (l' : List Pr) (a b c d e f : Lf) (N : Mem), M.le N → l' = doL l op → [a, b, c, d, e, f].map wkL = (doA l op).row →
      @finI prog (.tup [.l (.sl (l'.map Pr.row)), .agg [a, b, c, d, e, f]]) N ⟨fun r M' => r = .tup [.l (.sl ((doL l op).map Pr.row)), .agg (doA l op).row] ∧ M' = M⟩ := fun l' a b c d e f N hle h hw => by
    subst h
    refine finI_of (XFin.wk (XFin.le hle ⟨?_, rfl⟩))
    simp only [wkT, List.map_cons, List.map_nil, wkA]
    rw [← hw]
    rfl
  generalize hN : ((M.set id3 _).set id5 _ : Mem) = N
  have hN3 : N id3 = some (.cells 23 [[.int .i64 op.kind, .int .i64 op.key, .int .i64 op.to, .int .i64 op.val]] 0) := by rw [← hN, Mem.set_ne _ _ _ _ (by omega)]; exact Mem.set_eq _ _ _
  have hN5 : N id5 = some (.cells 29 [arow ans0] 0) := by rw [← hN]; exact Mem.set_eq _ _ _
  have hMN : M.le N := by rw [← hN]; exact le_new (le_new (Mem.le_refl _) hid3) hid5
  clear hN
  refine vc_cut (fun fr N' => N' = N ∧ okOp l op = true ∧ fr 0 = .l (.sl (l.map Pr.row)) ∧ fr 3 = .l (.ptr id3 0 0) ∧ fr 5 = .l (.ptr id5 0 0)) ?_ ?_
  · simp -implicitDefEqProofs (maxSteps := 1000000) (disch := omega) only [↓xsP, ↓vc_seq, xsQ, xsT, xsR, xsD, ↓reduceIte, reduceCtorEq, eq_self, ne_eq, imp_self, forall_const, Nat.reduceEqDiff, Nat.reduceAdd, Nat.reduceSub, Nat.reduceMul, Nat.reduceLT, Nat.reduceLeDiff, Nat.reduceBEq, Nat.reduceDiv, Nat.reduceMod, Int.reduceToNat, Int.reduceNeg, Int.reduceAdd, Int.reduceSub, Int.reduceMul, Int.reduceEq, Int.reduceNe, Int.reduceLT, Int.reduceLE, Int.reduceGT, Int.reduceGE]
    refine call_of (may_spec l (by omega) N) ?_
    cases hr : bof (Rises l) with
    | false =>
      have hk : okOp l op = false := by rw [okOp, hr]; rfl
      simp -implicitDefEqProofs (maxSteps := 1000000) (disch := omega) only [↓xsP, ↓vc_seq, xsQ, xsT, xsR, xsD, ↓reduceIte, reduceCtorEq, eq_self, ne_eq, imp_self, forall_const, Nat.reduceEqDiff, Nat.reduceAdd, Nat.reduceSub, Nat.reduceMul, Nat.reduceLT, Nat.reduceLeDiff, Nat.reduceBEq, Nat.reduceDiv, Nat.reduceMod, Int.reduceToNat, Int.reduceNeg, Int.reduceAdd, Int.reduceSub, Int.reduceMul, Int.reduceEq, Int.reduceNe, Int.reduceLT, Int.reduceLE, Int.reduceGT, Int.reduceGE]
      refine call_of (clone_spec l hl N) ?_
      simp -implicitDefEqProofs (maxSteps := 1000000) (disch := omega) only [↓xsP, ↓vc_seq, xsQ, xsT, xsR, xsD, ↓reduceIte, reduceCtorEq, eq_self, ne_eq, imp_self, forall_const, Nat.reduceEqDiff, Nat.reduceAdd, Nat.reduceSub, Nat.reduceMul, Nat.reduceLT, Nat.reduceLeDiff, Nat.reduceBEq, Nat.reduceDiv, Nat.reduceMod, Int.reduceToNat, Int.reduceNeg, Int.reduceAdd, Int.reduceSub, Int.reduceMul, Int.reduceEq, Int.reduceNe, Int.reduceLT, Int.reduceLE, Int.reduceGT, Int.reduceGE, hN5, arow, ans0]
      refine hend _ _ _ _ _ _ _ _ (Mem.le_set hMN (hid5 _ (Nat.le_refl _))) (by rw [doL, if_pos hk]) (by rw [doA, if_pos hk]; rfl)
    | true =>
      simp -implicitDefEqProofs (maxSteps := 1000000) (disch := omega) only [↓xsP, ↓vc_seq, xsQ, xsT, xsR, xsD, ↓reduceIte, reduceCtorEq, eq_self, ne_eq, imp_self, forall_const, Nat.reduceEqDiff, Nat.reduceAdd, Nat.reduceSub, Nat.reduceMul, Nat.reduceLT, Nat.reduceLeDiff, Nat.reduceBEq, Nat.reduceDiv, Nat.reduceMod, Int.reduceToNat, Int.reduceNeg, Int.reduceAdd, Int.reduceSub, Int.reduceMul, Int.reduceEq, Int.reduceNe, Int.reduceLT, Int.reduceLE, Int.reduceGT, Int.reduceGE, hN3]
      refine call_of (mayOp_spec op N) ?_
      cases hm : mayOpB op with
      | false =>
        have hk : okOp l op = false := by rw [okOp, hr, hm]; rfl
        simp -implicitDefEqProofs (maxSteps := 1000000) (disch := omega) only [↓xsP, ↓vc_seq, xsQ, xsT, xsR, xsD, ↓reduceIte, reduceCtorEq, eq_self, ne_eq, imp_self, forall_const, Nat.reduceEqDiff, Nat.reduceAdd, Nat.reduceSub, Nat.reduceMul, Nat.reduceLT, Nat.reduceLeDiff, Nat.reduceBEq, Nat.reduceDiv, Nat.reduceMod, Int.reduceToNat, Int.reduceNeg, Int.reduceAdd, Int.reduceSub, Int.reduceMul, Int.reduceEq, Int.reduceNe, Int.reduceLT, Int.reduceLE, Int.reduceGT, Int.reduceGE]
        refine call_of (clone_spec l hl N) ?_
        simp -implicitDefEqProofs (maxSteps := 1000000) (disch := omega) only [↓xsP, ↓vc_seq, xsQ, xsT, xsR, xsD, ↓reduceIte, reduceCtorEq, eq_self, ne_eq, imp_self, forall_const, Nat.reduceEqDiff, Nat.reduceAdd, Nat.reduceSub, Nat.reduceMul, Nat.reduceLT, Nat.reduceLeDiff, Nat.reduceBEq, Nat.reduceDiv, Nat.reduceMod, Int.reduceToNat, Int.reduceNeg, Int.reduceAdd, Int.reduceSub, Int.reduceMul, Int.reduceEq, Int.reduceNe, Int.reduceLT, Int.reduceLE, Int.reduceGT, Int.reduceGE, hN5, arow, ans0]
        refine hend _ _ _ _ _ _ _ _ (Mem.le_set hMN (hid5 _ (Nat.le_refl _))) (by rw [doL, if_pos hk]) (by rw [doA, if_pos hk]; rfl)
      | true =>
        simp -implicitDefEqProofs (maxSteps := 1000000) (disch := omega) only [↓xsP, ↓vc_seq, xsQ, xsT, xsR, xsD, ↓reduceIte, reduceCtorEq, eq_self, ne_eq, imp_self, forall_const, Nat.reduceEqDiff, Nat.reduceAdd, Nat.reduceSub, Nat.reduceMul, Nat.reduceLT, Nat.reduceLeDiff, Nat.reduceBEq, Nat.reduceDiv, Nat.reduceMod, Int.reduceToNat, Int.reduceNeg, Int.reduceAdd, Int.reduceSub, Int.reduceMul, Int.reduceEq, Int.reduceNe, Int.reduceLT, Int.reduceLE, Int.reduceGT, Int.reduceGE]
        rw [okOp, hr, hm]
        rfl
  · rintro fr N' ⟨rfl, hok, h0, h3, h5⟩
    have hok' : ¬ okOp l op = false := by rw [hok]; simp
    have hmay : mayOpB op = true := by
      rw [okOp, Bool.and_eq_true] at hok
      exact hok.2
    simp only [mayOpB, Bool.and_eq_true, decide_eq_true_eq] at hmay
    refine vc_seq_of ?_
    simp -implicitDefEqProofs (maxSteps := 1000000) (disch := omega) only [↓xsP, xsQ, xsT, xsR, xsD, ↓reduceIte, reduceCtorEq, eq_self, ne_eq, imp_self, forall_const, Nat.reduceEqDiff, Nat.reduceAdd, Nat.reduceSub, Nat.reduceMul, Nat.reduceLT, Nat.reduceLeDiff, Nat.reduceBEq, Nat.reduceDiv, Nat.reduceMod, Int.reduceToNat, Int.reduceNeg, Int.reduceAdd, Int.reduceSub, Int.reduceMul, Int.reduceEq, Int.reduceNe, Int.reduceLT, Int.reduceLE, Int.reduceGT, Int.reduceGE, h0, h3, h5]
    refine newI_intro fun id6 hid6 => ?_
    have h56 : id5 < id6 := lt_of_bnd hid6 hN5
    have h36 : id3 < id6 := lt_of_bnd hid6 hN3
    simp -implicitDefEqProofs (maxSteps := 1000000) (disch := omega) only [↓xsP, xsQ, xsT, xsR, xsD, ↓reduceIte, reduceCtorEq, eq_self, ne_eq, imp_self, forall_const, Nat.reduceEqDiff, Nat.reduceAdd, Nat.reduceSub, Nat.reduceMul, Nat.reduceLT, Nat.reduceLeDiff, Nat.reduceBEq, Nat.reduceDiv, Nat.reduceMod, Int.reduceToNat, Int.reduceNeg, Int.reduceAdd, Int.reduceSub, Int.reduceMul, Int.reduceEq, Int.reduceNe, Int.reduceLT, Int.reduceLE, Int.reduceGT, Int.reduceGE, h0, h3, h5]
    have hM6 : M id6 = none := by
      cases hq : M id6 with
      | none => rfl
      | some b => have := hMN _ _ hq; rw [hid6 _ (Nat.le_refl _)] at this; cases this
    refine vc_cut (fun fr N => fr 0 = .l (.sl (l.map Pr.row)) ∧ fr 5 = .l (.ptr id5 0 0) ∧ fr 6 = .l (.ptr id6 0 0) ∧ DoMid l op M id5 id6 N) ?_ ?_
    · have hget : ∀ {k : Int}, op.kind = k → 5 ≤ k → doL l op = l := fun h1 h2 => by
        rw [doL, if_neg hok', if_neg (by omega)]
      by_cases k5 : op.kind = 5
      · have q5 : (op.kind = 5) = True := eq_true k5
        have hdo : doA l op = ⟨0, false, ⟨0, 0⟩, (inRange l op).length, inRange l op⟩ := by rw [doA, if_neg hok', if_pos k5]
        simp -implicitDefEqProofs (maxSteps := 1000000) (disch := omega) only [↓xsP, ↓vc_seq, xsQ, xsT, xsR, xsD, ↓reduceIte, reduceCtorEq, eq_self, ne_eq, imp_self, forall_const, Nat.reduceEqDiff, Nat.reduceAdd, Nat.reduceSub, Nat.reduceMul, Nat.reduceLT, Nat.reduceLeDiff, Nat.reduceBEq, Nat.reduceDiv, Nat.reduceMod, Int.reduceToNat, Int.reduceNeg, Int.reduceAdd, Int.reduceSub, Int.reduceMul, Int.reduceEq, Int.reduceNe, Int.reduceLT, Int.reduceLE, Int.reduceGT, Int.reduceGE, h0, h3, h5, hN3, q5]
        refine call_of (within_spec l hl op.key op.to _) ?_
        simp -implicitDefEqProofs (maxSteps := 1000000) (disch := omega) only [↓xsP, ↓vc_seq, xsQ, xsT, xsR, xsD, ↓reduceIte, reduceCtorEq, eq_self, ne_eq, imp_self, forall_const, Nat.reduceEqDiff, Nat.reduceAdd, Nat.reduceSub, Nat.reduceMul, Nat.reduceLT, Nat.reduceLeDiff, Nat.reduceBEq, Nat.reduceDiv, Nat.reduceMod, Int.reduceToNat, Int.reduceNeg, Int.reduceAdd, Int.reduceSub, Int.reduceMul, Int.reduceEq, Int.reduceNe, Int.reduceLT, Int.reduceLE, Int.reduceGT, Int.reduceGE, h0, h3, h5, hN3, q5]
        exact doMid_set (hget k5 (by omega)) hMN hM6 (by omega) hN5 (by rw [hdo]; rfl)
      · have q5 : (op.kind = 5) = False := eq_false k5
        by_cases k6 : op.kind = 6
        · have q6 : (op.kind = 6) = True := eq_true k6
          have hdo : doA l op = ⟨0, false, ⟨0, 0⟩, (inRange l op).length, []⟩ := by rw [doA, if_neg hok', if_neg k5, if_pos k6]
          simp -implicitDefEqProofs (maxSteps := 1000000) (disch := omega) only [↓xsP, ↓vc_seq, xsQ, xsT, xsR, xsD, ↓reduceIte, reduceCtorEq, eq_self, ne_eq, imp_self, forall_const, Nat.reduceEqDiff, Nat.reduceAdd, Nat.reduceSub, Nat.reduceMul, Nat.reduceLT, Nat.reduceLeDiff, Nat.reduceBEq, Nat.reduceDiv, Nat.reduceMod, Int.reduceToNat, Int.reduceNeg, Int.reduceAdd, Int.reduceSub, Int.reduceMul, Int.reduceEq, Int.reduceNe, Int.reduceLT, Int.reduceLE, Int.reduceGT, Int.reduceGE, h0, h3, h5, hN3, q5, q6]
          refine call_of (within_spec l hl op.key op.to _) ?_
          simp -implicitDefEqProofs (maxSteps := 1000000) (disch := omega) only [↓xsP, ↓vc_seq, xsQ, xsT, xsR, xsD, ↓reduceIte, reduceCtorEq, eq_self, ne_eq, imp_self, forall_const, Nat.reduceEqDiff, Nat.reduceAdd, Nat.reduceSub, Nat.reduceMul, Nat.reduceLT, Nat.reduceLeDiff, Nat.reduceBEq, Nat.reduceDiv, Nat.reduceMod, Int.reduceToNat, Int.reduceNeg, Int.reduceAdd, Int.reduceSub, Int.reduceMul, Int.reduceEq, Int.reduceNe, Int.reduceLT, Int.reduceLE, Int.reduceGT, Int.reduceGE, h0, h3, h5, hN3, q5, q6]
          exact doMid_set (hget k6 (by omega)) hMN hM6 (by omega) hN5 (by rw [hdo]; rfl)
        · have q6 : (op.kind = 6) = False := eq_false k6
          by_cases k7 : op.kind = 7
          · have q7 : (op.kind = 7) = True := eq_true k7
            have q8 : (op.kind = 8) = False := eq_false (by omega)
            have hdo : doA l op = (if l = [] then ans0 else ⟨0, true, l.getD 0 default, 0, []⟩) := by rw [doA, if_neg hok', if_neg k5, if_neg k6, if_pos k7]
            simp -implicitDefEqProofs (maxSteps := 1000000) (disch := omega) only [↓xsP, ↓vc_seq, xsQ, xsT, xsR, xsD, ↓reduceIte, reduceCtorEq, eq_self, ne_eq, imp_self, forall_const, Nat.reduceEqDiff, Nat.reduceAdd, Nat.reduceSub, Nat.reduceMul, Nat.reduceLT, Nat.reduceLeDiff, Nat.reduceBEq, Nat.reduceDiv, Nat.reduceMod, Int.reduceToNat, Int.reduceNeg, Int.reduceAdd, Int.reduceSub, Int.reduceMul, Int.reduceEq, Int.reduceNe, Int.reduceLT, Int.reduceLE, Int.reduceGT, Int.reduceGE, h0, h3, h5, hN3, q5, q6, q7]
            refine condI_prop (fun hp => ?_) (fun hp => ?_)
            · have hl0 : ¬ l = [] := fun e => by subst e; simp at hp
              have hpos : ((l.length : Int) > 0) = True := eq_true hp
              have hpos' : 0 < l.length := by omega
              rw [if_neg hl0] at hdo
              simp -implicitDefEqProofs (maxSteps := 1000000) (disch := omega) only [↓xsP, ↓vc_seq, xsQ, xsT, xsR, xsD, ↓reduceIte, reduceCtorEq, eq_self, ne_eq, imp_self, forall_const, Nat.reduceEqDiff, Nat.reduceAdd, Nat.reduceSub, Nat.reduceMul, Nat.reduceLT, Nat.reduceLeDiff, Nat.reduceBEq, Nat.reduceDiv, Nat.reduceMod, Int.reduceToNat, Int.reduceNeg, Int.reduceAdd, Int.reduceSub, Int.reduceMul, Int.reduceEq, Int.reduceNe, Int.reduceLT, Int.reduceLE, Int.reduceGT, Int.reduceGE, h0, h3, h5, hN3, q7, q8, hpos]
              exact doMid_set (hget k7 (by omega)) hMN hM6 (by omega) hN5 (by rw [hdo]; rfl)
            · have hl0 : l = [] := List.eq_nil_of_length_eq_zero (by omega)
              have hpos : ((l.length : Int) > 0) = False := eq_false hp
              rw [if_pos hl0] at hdo
              simp -implicitDefEqProofs (maxSteps := 1000000) (disch := omega) only [↓xsP, ↓vc_seq, xsQ, xsT, xsR, xsD, ↓reduceIte, reduceCtorEq, eq_self, ne_eq, imp_self, forall_const, Nat.reduceEqDiff, Nat.reduceAdd, Nat.reduceSub, Nat.reduceMul, Nat.reduceLT, Nat.reduceLeDiff, Nat.reduceBEq, Nat.reduceDiv, Nat.reduceMod, Int.reduceToNat, Int.reduceNeg, Int.reduceAdd, Int.reduceSub, Int.reduceMul, Int.reduceEq, Int.reduceNe, Int.reduceLT, Int.reduceLE, Int.reduceGT, Int.reduceGE, h0, h3, h5, hN3, q7, q8, hpos]
              exact doMid_set (hget k7 (by omega)) hMN hM6 (by omega) hN5 (by rw [hdo]; rfl)
          · have q7 : (op.kind = 7) = False := eq_false k7
            by_cases k8 : op.kind = 8
            · have q8 : (op.kind = 8) = True := eq_true k8
              have hdo : doA l op = (if l = [] then ans0 else ⟨0, true, l.getD (l.length - 1) default, 0, []⟩) := by rw [doA, if_neg hok', if_neg k5, if_neg k6, if_neg k7, if_pos k8]
              simp -implicitDefEqProofs (maxSteps := 1000000) (disch := omega) only [↓xsP, ↓vc_seq, xsQ, xsT, xsR, xsD, ↓reduceIte, reduceCtorEq, eq_self, ne_eq, imp_self, forall_const, Nat.reduceEqDiff, Nat.reduceAdd, Nat.reduceSub, Nat.reduceMul, Nat.reduceLT, Nat.reduceLeDiff, Nat.reduceBEq, Nat.reduceDiv, Nat.reduceMod, Int.reduceToNat, Int.reduceNeg, Int.reduceAdd, Int.reduceSub, Int.reduceMul, Int.reduceEq, Int.reduceNe, Int.reduceLT, Int.reduceLE, Int.reduceGT, Int.reduceGE, h0, h3, h5, hN3, q5, q6, q7, q8]
              refine condI_prop (fun hp => ?_) (fun hp => ?_)
              · have hl0 : ¬ l = [] := fun e => by subst e; simp at hp
                have hpos : ((l.length : Int) > 0) = True := eq_true hp
                have hpos' : 0 < l.length := by omega
                rw [if_neg hl0] at hdo
                simp -implicitDefEqProofs (maxSteps := 1000000) (disch := omega) only [↓xsP, ↓vc_seq, xsQ, xsT, xsR, xsD, ↓reduceIte, reduceCtorEq, eq_self, ne_eq, imp_self, forall_const, Nat.reduceEqDiff, Nat.reduceAdd, Nat.reduceSub, Nat.reduceMul, Nat.reduceLT, Nat.reduceLeDiff, Nat.reduceBEq, Nat.reduceDiv, Nat.reduceMod, Int.reduceToNat, Int.reduceNeg, Int.reduceAdd, Int.reduceSub, Int.reduceMul, Int.reduceEq, Int.reduceNe, Int.reduceLT, Int.reduceLE, Int.reduceGT, Int.reduceGE, h0, h3, h5, hN3, q7, q8, hpos]
                exact doMid_set (hget k8 (by omega)) hMN hM6 (by omega) hN5 (by rw [hdo]; rfl)
              · have hl0 : l = [] := List.eq_nil_of_length_eq_zero (by omega)
                have hpos : ((l.length : Int) > 0) = False := eq_false hp
                rw [if_pos hl0] at hdo
                simp -implicitDefEqProofs (maxSteps := 1000000) (disch := omega) only [↓xsP, ↓vc_seq, xsQ, xsT, xsR, xsD, ↓reduceIte, reduceCtorEq, eq_self, ne_eq, imp_self, forall_const, Nat.reduceEqDiff, Nat.reduceAdd, Nat.reduceSub, Nat.reduceMul, Nat.reduceLT, Nat.reduceLeDiff, Nat.reduceBEq, Nat.reduceDiv, Nat.reduceMod, Int.reduceToNat, Int.reduceNeg, Int.reduceAdd, Int.reduceSub, Int.reduceMul, Int.reduceEq, Int.reduceNe, Int.reduceLT, Int.reduceLE, Int.reduceGT, Int.reduceGE, h0, h3, h5, hN3, q7, q8, hpos]
                exact doMid_set (hget k8 (by omega)) hMN hM6 (by omega) hN5 (by rw [hdo]; rfl)
            · have q8 : (op.kind = 8) = False := eq_false k8
              have hdo : doA l op = ansAt l (place l op.key) := by rw [doA, if_neg hok', if_neg k5, if_neg k6, if_neg k7, if_neg k8]
              have hdl : doL l op = oneL l op := by
                rw [doL, if_neg hok']
                split
                · rfl
                · rename_i hk
                  exact (oneL_get (by omega) (by omega) (by omega)).symm
              simp -implicitDefEqProofs (maxSteps := 1000000) (disch := omega) only [↓xsP, ↓vc_seq, xsQ, xsT, xsR, xsD, ↓reduceIte, reduceCtorEq, eq_self, ne_eq, imp_self, forall_const, Nat.reduceEqDiff, Nat.reduceAdd, Nat.reduceSub, Nat.reduceMul, Nat.reduceLT, Nat.reduceLeDiff, Nat.reduceBEq, Nat.reduceDiv, Nat.reduceMod, Int.reduceToNat, Int.reduceNeg, Int.reduceAdd, Int.reduceSub, Int.reduceMul, Int.reduceEq, Int.reduceNe, Int.reduceLT, Int.reduceLE, Int.reduceGT, Int.reduceGE, h0, h3, h5, hN3, q5, q6, q7, q8]
              refine call_of (one_spec l hl op _) ?_
              simp -implicitDefEqProofs (maxSteps := 1000000) (disch := omega) only [↓xsP, ↓vc_seq, xsQ, xsT, xsR, xsD, ↓reduceIte, reduceCtorEq, eq_self, ne_eq, imp_self, forall_const, Nat.reduceEqDiff, Nat.reduceAdd, Nat.reduceSub, Nat.reduceMul, Nat.reduceLT, Nat.reduceLeDiff, Nat.reduceBEq, Nat.reduceDiv, Nat.reduceMod, Int.reduceToNat, Int.reduceNeg, Int.reduceAdd, Int.reduceSub, Int.reduceMul, Int.reduceEq, Int.reduceNe, Int.reduceLT, Int.reduceLE, Int.reduceGT, Int.reduceGE, h0, h3, h5, hN5, arow, ans0]
              exact hend _ _ _ _ _ _ _ _ (Mem.le_set (Mem.le_set hMN hM6) (hid5 _ (Nat.le_refl _))) hdl.symm (by rw [hdo]; rfl)
    · clear h0 h3 h5
      rintro fr N ⟨h0, h5, h6, hdl, hMN2, hN5', a, b, c, d, e, f, hN6, hw⟩
      refine vc_seq_of ?_
      simp -implicitDefEqProofs (maxSteps := 1000000) (disch := omega) only [↓xsP, xsQ, xsT, xsR, xsD, ↓reduceIte, reduceCtorEq, eq_self, ne_eq, imp_self, forall_const, Nat.reduceEqDiff, Nat.reduceAdd, Nat.reduceSub, Nat.reduceMul, Nat.reduceLT, Nat.reduceLeDiff, Nat.reduceBEq, Nat.reduceDiv, Nat.reduceMod, Int.reduceToNat, Int.reduceNeg, Int.reduceAdd, Int.reduceSub, Int.reduceMul, Int.reduceEq, Int.reduceNe, Int.reduceLT, Int.reduceLE, Int.reduceGT, Int.reduceGE, h0, h5, h6]
      refine xwrite (fun n0 => [ (4, id5)]) [4] [] [[], [], [], [], []] (by kernel_rfl) (by kernel_rfl) (by kernel_rfl) (by kernel_rfl) (fun n0 hn0 => ⟨rfl, ?_, ?_⟩)
      · exact TOk_cons (.inl (lt_of_bnd hn0 hN5')) (TOk_nil _ _)
      · have h5n := lt_of_bnd hn0 hN5'
        have h6n := lt_of_bnd hn0 hN6
        simp -implicitDefEqProofs (maxSteps := 1000000) (disch := omega) only [↓xsP, ↓vc_seq, xsQ, xsT, xsR, xsD, ↓reduceIte, reduceCtorEq, eq_self, ne_eq, imp_self, forall_const, Nat.reduceEqDiff, Nat.reduceAdd, Nat.reduceSub, Nat.reduceMul, Nat.reduceLT, Nat.reduceLeDiff, Nat.reduceBEq, Nat.reduceDiv, Nat.reduceMod, Int.reduceToNat, Int.reduceNeg, Int.reduceAdd, Int.reduceSub, Int.reduceMul, Int.reduceEq, Int.reduceNe, Int.reduceLT, Int.reduceLE, Int.reduceGT, Int.reduceGE, h0, h5, h6]
        refine ⟨.l (.sl (l.map Pr.row)), [], fun M' hle => XCalls.mono (clone_spec l hl M') (by rintro _ _ ⟨rfl, rfl⟩; exact ⟨rfl, Mem.le_refl _⟩), ?_⟩
        simp -implicitDefEqProofs (maxSteps := 1000000) (disch := omega) only [↓xsP, ↓vc_seq, xsQ, xsT, xsR, xsD, ↓reduceIte, reduceCtorEq, eq_self, ne_eq, imp_self, forall_const, Nat.reduceEqDiff, Nat.reduceAdd, Nat.reduceSub, Nat.reduceMul, Nat.reduceLT, Nat.reduceLeDiff, Nat.reduceBEq, Nat.reduceDiv, Nat.reduceMod, Int.reduceToNat, Int.reduceNeg, Int.reduceAdd, Int.reduceSub, Int.reduceMul, Int.reduceEq, Int.reduceNe, Int.reduceLT, Int.reduceLE, Int.reduceGT, Int.reduceGE, h0, h5, h6, hN5', hN6, arow]
        exact hend _ _ _ _ _ _ _ _ (Mem.le_set hMN2 (hid5 _ (Nat.le_refl _))) hdl.symm hw
end Go.X

/- What layer 13's awake does: it says yes. -/

set_option linter.unusedVariables false
set_option linter.unusedSimpArgs false
set_option maxHeartbeats 20000000
set_option maxRecDepth 100000
namespace Go.X
open Go.Proofs.Try (prog)

theorem XCalls.kept2 {P : Program} {f : FuncId} {M : Mem} {K : AV → Mem → Prop} (id n : Nat) {T keep : Nat} {rows : List (List Lf)} {cs : List Lf} (hM : M id = some (.cells T rows keep)) (hn : n = rows.length) (hk : rows.length ≤ keep) (hc : cs.map (frzL id rows) = cs)
    (h : XCalls P f [.l (.sl rows), .agg cs] M K) : XCalls P f [.l (.ms id 0 n), .agg cs] M K := by
  subst hn
  refine XCalls.frz0 id hM hk ?_
  simpa [frzA, frz1, frzL, List.take_of_length_le, hc] using h
theorem opn_frz (id : Nat) (rows : List (List Lf)) (o : Opn) : o.row.map (frzL id rows) = o.row := by simp [Opn.row, frzL]
theorem prs_wk (l : List Pr) : (l.map Pr.row).map (fun r => r.map wkL) = l.map Pr.row := by
  simp only [List.map_map]
  exact List.map_congr_left fun p _ => by simp [Pr.row, wkL]

def aw0 : List Pr := [⟨1, 5⟩]
def awp : Opn := ⟨1, 3, 0, 7⟩
def awr : Opn := ⟨5, 2, 9, 0⟩
theorem rises2 {a b : Pr} (h : a.key < b.key) : Rises [a, b] := fun j h1 h2 => by
  have : j = 1 := by simp at h2; omega
  subst this
  simpa using h
theorem rises1 (a : Pr) : Rises [a] := fun j h1 h2 => by simp at h2; omega
theorem aw_ok0 : okOp aw0 awp = true := by
  rw [okOp, bof_true (show Rises aw0 from rises1 _)]
  rfl
theorem aw_l : doL aw0 awp = [⟨1, 5⟩, ⟨3, 7⟩] := by
  rw [doL, if_neg (by rw [aw_ok0]; simp), if_pos (.inl rfl)]
  decide
theorem aw_a : (doA aw0 awp).ok = false := by
  rw [doA, if_neg (by rw [aw_ok0]; simp), if_neg (by decide), if_neg (by decide), if_neg (by decide), if_neg (by decide)]
  decide
theorem aw_ok1 : okOp [⟨1, 5⟩, ⟨3, 7⟩] awr = true := by
  rw [okOp, bof_true (rises2 (by decide))]
  rfl
theorem aw_b : doA [⟨1, 5⟩, ⟨3, 7⟩] awr = ⟨0, false, ⟨0, 0⟩, 1, [⟨3, 7⟩]⟩ := by
  rw [doA, if_neg (by rw [aw_ok1]; simp), if_pos (show awr.kind = 5 from rfl)]
  decide
end Go.X

/- Plain laws of leaves: where a key stands, and what an operation on it makes. -/

set_option linter.unusedVariables false
set_option linter.unusedSimpArgs false
set_option maxRecDepth 100000
namespace Go.X

def Asc (l : List Pr) : Prop := l.Pairwise fun a b => a.key < b.key
theorem rises_cons {x y : Pr} {r : List Pr} : Rises (x :: y :: r) ↔ x.key < y.key ∧ Rises (y :: r) := by
  constructor
  · intro h
    refine ⟨by simpa using h 1 (Nat.le_refl _) (by simp), fun j h1 h2 => ?_⟩
    have := h (j + 1) (by omega) (by simpa using h2)
    cases j with
    | zero => omega
    | succ j => simpa using this
  · rintro ⟨h, hr⟩ j h1 h2
    cases j with
    | zero => omega
    | succ j =>
      cases j with
      | zero => simpa using h
      | succ j => simpa using hr (j + 1) (by omega) (by simpa using h2)
theorem rises_asc : ∀ (l : List Pr), Rises l ↔ Asc l
  | [] => ⟨fun _ => List.Pairwise.nil, fun _ j h1 h2 => by simp at h2⟩
  | [x] => ⟨fun _ => List.pairwise_singleton _ _, fun _ j h1 h2 => by simp at h2; omega⟩
  | x :: y :: r => by
    rw [rises_cons, rises_asc (y :: r)]
    constructor
    · rintro ⟨h, hr⟩
      refine List.pairwise_cons.2 ⟨fun b hb => ?_, hr⟩
      rcases List.mem_cons.1 hb with rfl | hb
      · exact h
      · have := (List.pairwise_cons.1 hr).1 b hb
        omega
    · intro hr
      have h2 := List.pairwise_cons.1 hr
      exact ⟨h2.1 y (by simp), h2.2⟩

def Out (k : Int) (A C l : List Pr) : Prop := l = A ++ C ∧ (∀ a ∈ A, a.key < k) ∧ ∀ c ∈ C, k < c.key
def Inn (k : Int) (A : List Pr) (x : Pr) (C l : List Pr) : Prop := l = A ++ x :: C ∧ x.key = k ∧ (∀ a ∈ A, a.key < k) ∧ ∀ c ∈ C, k < c.key
theorem forms (k : Int) : ∀ (l : List Pr), Asc l → (∃ A C, Out k A C l) ∨ ∃ A x C, Inn k A x C l
  | [], _ => .inl ⟨[], [], rfl, (fun a h => by cases h), (fun a h => by cases h)⟩
  | x :: r, h => by
    obtain ⟨h1, h2⟩ := List.pairwise_cons.1 h
    by_cases hx : x.key < k
    · rcases forms k r h2 with ⟨A, C, rfl, ha, hc⟩ | ⟨A, y, C, rfl, hy, ha, hc⟩
      · exact .inl ⟨x :: A, C, rfl, (fun a h => by rcases List.mem_cons.1 h with rfl | h; exact hx; exact ha a h), hc⟩
      · exact .inr ⟨x :: A, y, C, rfl, hy, (fun a h => by rcases List.mem_cons.1 h with rfl | h; exact hx; exact ha a h), hc⟩
    · by_cases he : x.key = k
      · exact .inr ⟨[], x, r, rfl, he, (fun a h => by cases h), fun c hc => by have := h1 c hc; omega⟩
      · refine .inl ⟨[], x :: r, rfl, (fun a h => by cases h), fun c hc => ?_⟩
        rcases List.mem_cons.1 hc with rfl | hc
        · omega
        · have := h1 c hc
          omega
theorem asc_app {A C : List Pr} {p : Pr} {k : Int} (h : Asc (A ++ C)) (ha : ∀ a ∈ A, a.key < p.key) (hc : ∀ c ∈ C, p.key < c.key) : Asc (A ++ p :: C) := by
  rw [Asc, List.pairwise_append] at h ⊢
  refine ⟨h.1, List.pairwise_cons.2 ⟨hc, h.2.1⟩, fun a h1 b h2 => ?_⟩
  rcases List.mem_cons.1 h2 with rfl | h2
  · exact ha a h1
  · exact h.2.2 a h1 b h2
theorem asc_del {A C : List Pr} {p : Pr} (h : Asc (A ++ p :: C)) : Asc (A ++ C) := by
  rw [Asc, List.pairwise_append] at h ⊢
  exact ⟨h.1, (List.pairwise_cons.1 h.2.1).2, fun a h1 b h2 => h.2.2 a h1 b (List.mem_cons_of_mem _ h2)⟩

theorem wat_app {k : Int} {B : List Pr} : ∀ {A : List Pr}, (∀ a ∈ A, a.key < k) → wat k (A ++ B) = A.length + wat k B
  | [], _ => by simp
  | a :: A, h => by
    simp only [List.cons_append, wat, if_pos (h a (by simp)), List.length_cons]
    rw [wat_app fun b hb => h b (by simp [hb])]
    omega
theorem wat_ge {k : Int} {B : List Pr} (h : ∀ b ∈ B, k ≤ b.key) : wat k B = 0 := by
  cases B with
  | nil => rfl
  | cons b r => simp only [wat]; rw [if_neg (by have := h b (by simp); omega)]
theorem pidx_app {q : Pr → Bool} {B : List Pr} : ∀ {A : List Pr} (i : Nat), (∀ a ∈ A, q a = false) → pidx q (A ++ B) i = pidx q B (i + A.length)
  | [], i, _ => by simp
  | a :: A, i, h => by
    simp only [List.cons_append, pidx, h a (by simp), Bool.false_eq_true, if_false, List.length_cons]
    rw [pidx_app (i + 1) fun b hb => h b (by simp [hb])]
    congr 1
    omega
theorem pidx_none {q : Pr → Bool} : ∀ {B : List Pr} (i : Nat), (∀ b ∈ B, q b = false) → pidx q B i = -1
  | [], _, _ => rfl
  | b :: B, i, h => by
    simp only [pidx, h b (by simp), Bool.false_eq_true, if_false]
    exact pidx_none (i + 1) fun c hc => h c (by simp [hc])

section
variable {k : Int} {A C l : List Pr} {x : Pr}
theorem Out.place (h : Out k A C l) : place l k = -1 := by
  obtain ⟨rfl, ha, hc⟩ := h
  exact pidx_none 0 fun b hb => by
    rcases List.mem_append.1 hb with hb | hb
    · have := ha b hb; simp; omega
    · have := hc b hb; simp; omega
theorem Inn.place (h : Inn k A x C l) : place l k = A.length := by
  obtain ⟨rfl, hx, ha, hc⟩ := h
  rw [Go.X.place, pidx_app 0 fun b hb => by have := ha b hb; simp; omega]
  simp [pidx, hx]
theorem Inn.get (h : Inn k A x C l) : l.getD A.length default = x := by
  obtain ⟨rfl, _⟩ := h
  simp [List.getD_eq_getElem?_getD]
theorem Out.with (h : Out k A C l) (v : Int) : withL l ⟨k, v⟩ = A ++ ⟨k, v⟩ :: C := by
  obtain ⟨rfl, ha, hc⟩ := h
  have hw : wat k (A ++ C) = A.length := by rw [wat_app ha, wat_ge fun b hb => by have := hc b hb; omega]; rfl
  have hr : withRest (A ++ C) ⟨k, v⟩ = C := by
    unfold withRest
    simp only [hw, List.drop_left]
    cases C with
    | nil => rfl
    | cons c r =>
      have := hc c (by simp)
      simp only
      rw [if_neg (by omega)]
  rw [withL, hr]
  simp [hw]
theorem Inn.with (h : Inn k A x C l) (v : Int) : withL l ⟨k, v⟩ = A ++ ⟨k, v⟩ :: C := by
  obtain ⟨rfl, hx, ha, hc⟩ := h
  have hw : wat k (A ++ x :: C) = A.length := by
    rw [wat_app ha, wat_ge fun b hb => by
      rcases List.mem_cons.1 hb with rfl | hb
      · omega
      · have := hc b hb; omega]
    rfl
  have hr : withRest (A ++ x :: C) ⟨k, v⟩ = C := by
    unfold withRest
    simp only [hw, List.drop_left]
    rw [if_pos hx]
  rw [withL, hr]
  simp [hw]
theorem Inn.cut (h : Inn k A x C l) : l.take (Go.X.place l k).toNat ++ l.drop ((Go.X.place l k).toNat + 1) = A ++ C := by
  have hp := h.place
  obtain ⟨rfl, _⟩ := h
  rw [hp, Int.toNat_natCast]
  simp
end

/-- What an operation on a key makes of a leaf. -/
theorem one_forms {l : List Pr} (op : Opn) (h : Asc l) (h1 : 1 ≤ op.kind) :
    (∃ A C, Out op.key A C l ∧ ((op.kind = 1 ∨ op.kind = 2) ∧ oneL l op = A ++ ⟨op.key, op.val⟩ :: C ∨ 3 ≤ op.kind ∧ oneL l op = l)) ∨
    ∃ A x C, Inn op.key A x C l ∧ (op.kind = 1 ∧ oneL l op = A ++ ⟨op.key, op.val⟩ :: C ∨ op.kind = 3 ∧ oneL l op = A ++ C ∨ (op.kind = 2 ∨ 4 ≤ op.kind) ∧ oneL l op = l) := by
  rcases forms op.key l h with ⟨A, C, hO⟩ | ⟨A, x, C, hI⟩
  · refine .inl ⟨A, C, hO, ?_⟩
    have hp := hO.place
    by_cases h3 : 3 ≤ op.kind
    · exact .inr ⟨h3, by rw [oneL, if_neg (by omega), if_neg (by omega)]⟩
    · exact .inl ⟨by omega, by rw [oneL, if_pos (by omega), hO.with]⟩
  · refine .inr ⟨A, x, C, hI, ?_⟩
    have hp := hI.place
    by_cases k1 : op.kind = 1
    · exact .inl ⟨k1, by rw [oneL, if_pos (.inl k1), hI.with]⟩
    · by_cases k3 : op.kind = 3
      · exact .inr (.inl ⟨k3, by rw [oneL, if_neg (by omega), if_pos (by omega), hI.cut]⟩)
      · exact .inr (.inr ⟨by omega, by rw [oneL, if_neg (by omega), if_neg (by omega)]⟩)
end Go.X

/- Plain laws of leaves: an update done twice. -/

set_option linter.unusedVariables false
set_option linter.unusedSimpArgs false
set_option maxRecDepth 100000
namespace Go.X

theorem okOp_of {l : List Pr} {op : Opn} (h : Asc l) (hm : mayOpB op = true) : okOp l op = true := by
  rw [okOp, bof_true ((rises_asc l).2 h), hm]; rfl
theorem may_kind {op : Opn} (hm : mayOpB op = true) : 1 ≤ op.kind ∧ op.kind ≤ 8 := by simpa [mayOpB] using hm
theorem doL_upd {l : List Pr} {op : Opn} (h : Asc l) (hm : mayOpB op = true) (hk : op.kind ≤ 3) : doL l op = oneL l op := by
  have := may_kind hm
  rw [doL, if_neg (by rw [okOp_of h hm]; simp), if_pos (by omega)]
theorem doL_read {l : List Pr} {op : Opn} (hk : 4 ≤ op.kind) : doL l op = l := by
  rw [doL]
  split
  · rfl
  · rw [if_neg (by omega)]
theorem doA_one {l : List Pr} {op : Opn} (h : Asc l) (hm : mayOpB op = true) (hk : op.kind ≤ 4) : doA l op = ansAt l (place l op.key) := by
  rw [doA, if_neg (by rw [okOp_of h hm]; simp), if_neg (by omega), if_neg (by omega), if_neg (by omega), if_neg (by omega)]
def getOp (k : Int) : Opn := ⟨4, k, 0, 0⟩
theorem doA_get {l : List Pr} (k : Int) (h : Asc l) : doA l (getOp k) = ansAt l (place l k) := doA_one (op := getOp k) h rfl (show (4 : Int) ≤ 4 by decide)

theorem upd_law {l : List Pr} {op : Opn} (h : Asc l) (h1 : 1 ≤ op.kind) (h3 : op.kind ≤ 3) :
    Asc (oneL l op) ∧ oneL (oneL l op) op = oneL l op ∧ (ansAt (oneL l op) (place (oneL l op) op.key)).ok = decide (op.kind ≠ 3) := by
  have hsel : ∀ {A C : List Pr} {x : Pr} {m : List Pr}, Inn op.key A x C m → Asc m → op.kind ≠ 3 → (op.kind = 1 → x = ⟨op.key, op.val⟩) → oneL m op = m ∧ (ansAt m (place m op.key)).ok = decide (op.kind ≠ 3) := fun {A C x m} hI hm hk hx => by
    have hp := hI.place
    refine ⟨?_, ?_⟩
    · by_cases k1 : op.kind = 1
      · rw [oneL, if_pos (.inl k1), hI.with, ← hx k1, ← hI.1]
      · rw [oneL, if_neg (by omega), if_neg (by omega)]
    · rw [hp, ansAt, if_pos (by omega)]
      simp [hk]
  have hno : ∀ {A C m : List Pr}, Out op.key A C m → op.kind = 3 → oneL m op = m ∧ (ansAt m (place m op.key)).ok = decide (op.kind ≠ 3) := fun {A C m} hO hk => by
    have hp := hO.place
    refine ⟨by rw [oneL, if_neg (by omega), if_neg (by omega)], ?_⟩
    rw [hp, ansAt, if_neg (by omega)]
    simp [hk, ans0]
  rcases one_forms op h h1 with ⟨A, C, hO, hc⟩ | ⟨A, x, C, hI, hc⟩
  · rcases hc with ⟨hk, hm⟩ | ⟨hk, hm⟩
    · have hI : Inn op.key A ⟨op.key, op.val⟩ C (oneL l op) := ⟨hm, rfl, hO.2.1, hO.2.2⟩
      have ha : Asc (oneL l op) := by rw [hm]; exact asc_app (k := op.key) (by rw [← hO.1]; exact h) hO.2.1 hO.2.2
      exact ⟨ha, hsel hI ha (by omega) fun _ => rfl⟩
    · rw [hm]
      exact ⟨h, hno hO (by omega)⟩
  · rcases hc with ⟨hk, hm⟩ | ⟨hk, hm⟩ | ⟨hk, hm⟩
    · have hI2 : Inn op.key A ⟨op.key, op.val⟩ C (oneL l op) := ⟨hm, rfl, hI.2.2.1, hI.2.2.2⟩
      have ha : Asc (oneL l op) := by
        rw [hm]
        exact asc_app (k := op.key) (asc_del (p := x) (by rw [← hI.1]; exact h)) hI.2.2.1 hI.2.2.2
      exact ⟨ha, hsel hI2 ha (by omega) fun _ => rfl⟩
    · have hO : Out op.key A C (oneL l op) := ⟨hm, hI.2.2.1, hI.2.2.2⟩
      have ha : Asc (oneL l op) := by rw [hm]; exact asc_del (p := x) (by rw [← hI.1]; exact h)
      exact ⟨ha, hno hO hk⟩
    · rw [hm]
      exact ⟨h, hsel hI h (by omega) fun hk1 => by omega⟩
theorem oneL_len (l : List Pr) (op : Opn) : (oneL l op).length ≤ l.length + 1 := by
  unfold oneL
  split
  · have := withRest_len l ⟨op.key, op.val⟩
    change _ ≤ l.length - wat op.key l at this
    unfold withL
    simp only [List.length_append, List.length_take, List.length_cons, List.length_nil]
    omega
  · split
    · simp only [List.length_append, List.length_take, List.length_drop]
      omega
    · omega
theorem doL_len (l : List Pr) (op : Opn) : (doL l op).length ≤ l.length + 1 := by
  have := oneL_len l op
  unfold doL
  split
  · omega
  · split <;> omega
end Go.X

/- Plain laws of leaves: the ends, and what is left when the front is cut. -/

set_option linter.unusedVariables false
set_option linter.unusedSimpArgs false
set_option maxRecDepth 100000
namespace Go.X

def minOp : Opn := ⟨7, 0, 0, 0⟩
def maxOp : Opn := ⟨8, 0, 0, 0⟩
def cutOp (k : Int) : Opn := ⟨3, k, 0, 0⟩
theorem doA_min {l : List Pr} (h : Asc l) : doA l minOp = if l = [] then ans0 else ⟨0, true, l.getD 0 default, 0, []⟩ := by
  rw [doA, if_neg (by rw [okOp_of h rfl]; simp), if_neg (by decide), if_neg (by decide), if_pos (show minOp.kind = 7 from rfl)]
theorem doA_max {l : List Pr} (h : Asc l) : doA l maxOp = if l = [] then ans0 else ⟨0, true, l.getD (l.length - 1) default, 0, []⟩ := by
  rw [doA, if_neg (by rw [okOp_of h rfl]; simp), if_neg (by decide), if_neg (by decide), if_neg (by decide), if_pos (show maxOp.kind = 8 from rfl)]
theorem doL_cut {x : Pr} {r : List Pr} (h : Asc (x :: r)) : doL (x :: r) (cutOp x.key) = r := by
  have hI : Inn x.key [] x r (x :: r) := ⟨rfl, rfl, (fun a h => by cases h), (List.pairwise_cons.1 h).1⟩
  have hp := hI.place
  rw [doL_upd h rfl (show (3 : Int) ≤ 3 by decide), oneL, if_neg (by
    rintro (h1 | h1)
    · exact absurd h1 (show ¬ (3 : Int) = 1 by decide)
    · exact absurd h1.1 (show ¬ (3 : Int) = 2 by decide)), if_pos ⟨rfl, by show (0 : Int) ≤ place (x :: r) x.key; rw [hp]; simp⟩]
  exact hI.cut
theorem asc_drop {l : List Pr} (h : Asc l) (i : Nat) : Asc (l.drop i) := List.Pairwise.sublist (List.drop_sublist i l) h
theorem drop_cons {l : List Pr} {i : Nat} (hi : i < l.length) : l.drop i = l.getD i default :: l.drop (i + 1) := by
  rw [List.drop_eq_getElem_cons hi, List.getD_eq_getElem?_getD, List.getElem?_eq_getElem hi, Option.getD_some]
theorem getD_drop (l : List Pr) (i j : Nat) : (l.drop i).getD j default = l.getD (i + j) default := by
  simp [List.getD_eq_getElem?_getD, List.getElem?_drop]
end Go.X

/- Plain laws of leaves: ranges. -/

set_option linter.unusedVariables false
set_option linter.unusedSimpArgs false
set_option maxRecDepth 100000
namespace Go.X

def rangeOp (lo hi : Int) : Opn := ⟨5, lo, hi, 0⟩
def countOp (lo hi : Int) : Opn := ⟨6, lo, hi, 0⟩
def rng (l : List Pr) (lo hi : Int) : List Pr := stays (outside lo hi) l
theorem doA_range {l : List Pr} (h : Asc l) (lo hi : Int) : doA l (rangeOp lo hi) = ⟨0, false, ⟨0, 0⟩, (rng l lo hi).length, rng l lo hi⟩ := by
  rw [doA, if_neg (by rw [okOp_of h rfl]; simp), if_pos (show (rangeOp lo hi).kind = 5 from rfl)]
  rfl
theorem doA_count {l : List Pr} (h : Asc l) (lo hi : Int) : doA l (countOp lo hi) = ⟨0, false, ⟨0, 0⟩, (rng l lo hi).length, []⟩ := by
  rw [doA, if_neg (by rw [okOp_of h rfl]; simp), if_neg (show ¬ (countOp lo hi).kind = 5 by show ¬ (6 : Int) = 5; decide), if_pos (show (countOp lo hi).kind = 6 from rfl)]
  rfl
theorem rng_asc {l : List Pr} (h : Asc l) (lo hi : Int) : Asc (rng l lo hi) := List.Pairwise.sublist List.filter_sublist h
theorem rng_cons (x : Pr) (r : List Pr) (lo hi : Int) : rng (x :: r) lo hi = if outside lo hi x then rng r lo hi else x :: rng r lo hi := by
  simp only [rng, stays, List.filter_cons]
  cases outside lo hi x <;> simp
theorem rng_none {r : List Pr} {lo hi : Int} (h : ∀ b ∈ r, hi < b.key) : rng r lo hi = [] := by
  unfold rng stays
  rw [List.filter_eq_nil_iff]
  intro b hb
  have := h b hb
  simp [outside]
  omega
/-- Two ranges side by side are one. -/
theorem rng_join (lo mid hi : Int) (h1 : lo ≤ mid) (h2 : mid ≤ hi) : ∀ (l : List Pr), Asc l → rng l lo (mid - 1) ++ rng l mid hi = rng l lo hi
  | [], _ => rfl
  | x :: r, h => by
    obtain ⟨hx, hr⟩ := List.pairwise_cons.1 h
    have ih := rng_join lo mid hi h1 h2 r hr
    rw [rng_cons, rng_cons, rng_cons]
    by_cases c1 : x.key < lo
    · have e1 : outside lo (mid - 1) x = true := by simp [outside, c1]
      have e2 : outside mid hi x = true := by simp [outside]; omega
      have e3 : outside lo hi x = true := by simp [outside, c1]
      rw [e1, e2, e3]
      simpa using ih
    · by_cases c2 : x.key < mid
      · have e1 : outside lo (mid - 1) x = false := by simp [outside]; omega
        have e2 : outside mid hi x = true := by simp [outside]; omega
        have e3 : outside lo hi x = false := by simp [outside]; omega
        rw [e1, e2, e3]
        simpa using ih
      · have hn : rng r lo (mid - 1) = [] := rng_none fun b hb => by have := hx b hb; omega
        rw [hn, List.nil_append] at ih
        have e1 : outside lo (mid - 1) x = true := by simp [outside]; omega
        rw [e1, hn]
        by_cases c3 : x.key ≤ hi
        · have e2 : outside mid hi x = false := by simp [outside]; omega
          have e3 : outside lo hi x = false := by simp [outside]; omega
          rw [e2, e3]
          simpa using ih
        · have e2 : outside mid hi x = true := by simp [outside]; omega
          have e3 : outside lo hi x = true := by simp [outside]; omega
          rw [e2, e3]
          simpa using ih
theorem rng_len (l : List Pr) (lo hi : Int) : (rng l lo hi).length ≤ l.length := stays_len _ _
end Go.X

/- What is there at a key: plain laws of leaves as maps. -/

set_option linter.unusedVariables false
set_option maxRecDepth 100000
namespace Go.X

/-- What is there at a key. -/
def look : List Pr → Int → Option Int
  | [], _ => none
  | p :: r, k => if p.key = k then some p.val else look r k
theorem look_app (A B : List Pr) (k : Int) (h : ∀ a ∈ A, a.key ≠ k) : look (A ++ B) k = look B k := by
  induction A with
  | nil => rfl
  | cons x r ih =>
    rw [List.cons_append, look, if_neg (h x (by simp)), ih fun a ha => h a (by simp [ha])]
theorem look_none {l : List Pr} {k : Int} (h : ∀ a ∈ l, a.key ≠ k) : look l k = none := by
  have := look_app l [] k h
  simpa [look] using this
theorem look_mid {A C : List Pr} {x y : Pr} {k : Int} (hk : y.key = x.key) (h : k ≠ x.key) : look (A ++ y :: C) k = look (A ++ C) k := by
  induction A with
  | nil => rw [List.nil_append, look, if_neg (by omega)]; rfl
  | cons z r ih =>
    rw [List.cons_append, List.cons_append, look, look, ih]
theorem Out.look {A C l : List Pr} {k : Int} (h : Out k A C l) : look l k = none := by
  obtain ⟨rfl, h1, h2⟩ := h
  refine look_none fun a ha => ?_
  rcases List.mem_append.1 ha with h' | h'
  · have := h1 a h'; omega
  · have := h2 a h'; omega
theorem Inn.look {A C l : List Pr} {x : Pr} {k : Int} (h : Inn k A x C l) : look l k = some x.val := by
  obtain ⟨rfl, h1, h2, h3⟩ := h
  rw [look_app _ _ _ fun a ha => by have := h2 a ha; omega, Go.X.look, if_pos h1]
def lookA (k : Int) : Option Int → Ans
  | none => ans0
  | some v => ⟨0, true, ⟨k, v⟩, 0, []⟩
theorem ansAt_look {l : List Pr} (h : Asc l) (k : Int) : ansAt l (place l k) = lookA k (look l k) := by
  rcases forms k l h with ⟨A, C, hO⟩ | ⟨A, x, C, hI⟩
  · rw [hO.place, hO.look]; rfl
  · rw [hI.place, hI.look, ansAt, if_pos (by omega), Int.toNat_natCast, hI.get]
    have := hI.2.1
    subst this
    rfl
/-- What an operation makes of what is there at its key. -/
def upd1 (op : Opn) (o : Option Int) : Option Int :=
  if op.kind = 1 then some op.val else if op.kind = 2 then (match o with | none => some op.val | some v => some v) else if op.kind = 3 then none else o
theorem oneL_look {l : List Pr} {op : Opn} (h : Asc l) (h1 : 1 ≤ op.kind) (k : Int) : look (oneL l op) k = if k = op.key then upd1 op (look l k) else look l k := by
  rcases one_forms op h h1 with ⟨A, C, hO, hc⟩ | ⟨A, x, C, hI, hc⟩
  · rcases hc with ⟨hk, hm⟩ | ⟨hk, hm⟩
    · by_cases e : k = op.key
      · subst e
        have hI : Inn op.key A ⟨op.key, op.val⟩ C (oneL l op) := ⟨hm, rfl, hO.2.1, hO.2.2⟩
        rw [if_pos rfl, hI.look, hO.look, upd1]
        rcases hk with hk | hk
        · rw [if_pos hk]
        · rw [if_neg (by omega), if_pos hk]
      · rw [if_neg e, hm, look_mid (x := ⟨op.key, op.val⟩) rfl e, ← hO.1]
    · by_cases e : k = op.key
      · subst e
        rw [if_pos rfl, hm, hO.look, upd1, if_neg (by omega), if_neg (by omega)]
        split <;> rfl
      · rw [if_neg e, hm]
  · rcases hc with ⟨hk, hm⟩ | ⟨hk, hm⟩ | ⟨hk, hm⟩
    · by_cases e : k = op.key
      · subst e
        have hI2 : Inn op.key A ⟨op.key, op.val⟩ C (oneL l op) := ⟨hm, rfl, hI.2.2.1, hI.2.2.2⟩
        rw [if_pos rfl, hI2.look, hI.look, upd1, if_pos hk]
      · have hx := hI.2.1
        rw [if_neg e, hm, look_mid (x := ⟨op.key, op.val⟩) rfl e, hI.1, look_mid (x := x) rfl (by omega)]
    · have hx := hI.2.1
      by_cases e : k = op.key
      · subst e
        have hO : Out op.key A C (oneL l op) := ⟨hm, hI.2.2.1, hI.2.2.2⟩
        rw [if_pos rfl, hO.look, hI.look, upd1, if_neg (by omega), if_neg (by omega), if_pos hk]
      · rw [if_neg e, hm, hI.1, look_mid (x := x) rfl (by omega)]
    · by_cases e : k = op.key
      · subst e
        rw [if_pos rfl, hm, hI.look, upd1, if_neg (by omega)]
        rcases hk with hk | hk
        · rw [if_pos hk]
        · rw [if_neg (by omega), if_neg (by omega)]
      · rw [if_neg e, hm]
theorem look_head {x : Pr} {r : List Pr} (h : Asc (x :: r)) {k : Int} (hk : k < x.key) : look (x :: r) k = none := by
  refine look_none fun a ha => ?_
  rcases List.mem_cons.1 ha with rfl | h'
  · omega
  · have := (List.pairwise_cons.1 h).1 a h'
    omega
theorem look_ext : ∀ {l m : List Pr}, Asc l → Asc m → (∀ k, look l k = look m k) → l = m
  | [], [], _, _, _ => rfl
  | [], y :: s, _, _, h => by have := h y.key; rw [look, look, if_pos rfl] at this; cases this
  | x :: r, [], _, _, h => by have := h x.key; rw [look, look, if_pos rfl] at this; cases this
  | x :: r, y :: s, hl, hm, h => by
    have hxy : x.key = y.key := by
      rcases Int.lt_trichotomy x.key y.key with h' | h' | h'
      · have := h x.key
        rw [look_head hm h', look, if_pos rfl] at this
        cases this
      · exact h'
      · have := h y.key
        rw [look_head hl h', look, if_pos rfl] at this
        cases this
    have hv : x.val = y.val := by
      have := h x.key
      rw [look, look, if_pos rfl, if_pos hxy.symm] at this
      exact Option.some.inj this
    have e : x = y := by
      cases x; cases y
      simp at hxy hv
      rw [hxy, hv]
    subst e
    have hr : r = s := look_ext (List.pairwise_cons.1 hl).2 (List.pairwise_cons.1 hm).2 fun k => by
      have hk := h k
      rw [look, look] at hk
      by_cases hxk : x.key = k
      · subst hxk
        rw [look_none fun a ha => by have := (List.pairwise_cons.1 hl).1 a ha; omega, look_none fun a ha => by have := (List.pairwise_cons.1 hm).1 a ha; omega]
      · rw [if_neg hxk, if_neg hxk] at hk
        exact hk
    rw [hr]

theorem doL_asc {l : List Pr} (op : Opn) (h : Asc l) : Asc (doL l op) := by
  by_cases hm : mayOpB op = true
  · have hk := may_kind hm
    by_cases h3 : op.kind ≤ 3
    · rw [doL_upd h hm h3]
      exact (upd_law h hk.1 h3).1
    · rw [doL_read (by omega)]
      exact h
  · have : okOp l op = false := by
      rw [okOp]
      simp at hm
      rw [hm, Bool.and_false]
    rw [doL, if_pos this]
    exact h
theorem doL_look {l : List Pr} {op : Opn} (h : Asc l) (hm : mayOpB op = true) (hk : op.kind ≤ 4) (k : Int) : look (doL l op) k = if k = op.key then upd1 op (look l k) else look l k := by
  have h1 := (may_kind hm).1
  by_cases h3 : op.kind ≤ 3
  · rw [doL_upd h hm h3, oneL_look h h1]
  · have e : upd1 op (look l k) = look l k := by rw [upd1.eq_def, if_neg (show ¬ op.kind = 1 by omega), if_neg (show ¬ op.kind = 2 by omega), if_neg (show ¬ op.kind = 3 by omega)]
    rw [doL_read (by omega), e]
    split <;> rfl
theorem doA_look {l : List Pr} {op : Opn} (h : Asc l) (hm : mayOpB op = true) (hk : op.kind ≤ 4) : doA l op = lookA op.key (look l op.key) := by
  rw [doA_one h hm hk, ansAt_look h]
/-- Operations of unlike keys go by one another. -/
theorem do_swap {l : List Pr} {a b : Opn} (h : Asc l) (ha : mayOpB a = true) (ha4 : a.kind ≤ 4) (hb : mayOpB b = true) (hb4 : b.kind ≤ 4) (hne : a.key ≠ b.key) :
    doL (doL l a) b = doL (doL l b) a ∧ doA (doL l a) b = doA l b ∧ doA (doL l b) a = doA l a := by
  have hA := doL_asc a h
  have hB := doL_asc b h
  refine ⟨look_ext (doL_asc b hA) (doL_asc a hB) fun k => ?_, ?_, ?_⟩
  · rw [doL_look hA hb hb4, doL_look h ha ha4, doL_look hB ha ha4, doL_look h hb hb4]
    by_cases e1 : k = a.key
    · rw [if_neg (show ¬ k = b.key by omega), if_pos e1, if_pos e1, if_neg (by omega)]
    · by_cases e2 : k = b.key
      · rw [if_pos e2, if_neg e1, if_neg e1, if_pos e2]
      · rw [if_neg e2, if_neg e1, if_neg e1, if_neg e2]
  · rw [doA_look hA hb hb4, doA_look h hb hb4, doL_look h ha ha4, if_neg (by omega)]
  · rw [doA_look hB ha ha4, doA_look h ha ha4, doL_look h hb hb4, if_neg (by omega)]
end Go.X

/- What a map does: model's functions. -/


set_option linter.unusedVariables false
set_option linter.unusedSimpArgs false
set_option maxHeartbeats 20000000
set_option maxRecDepth 100000
namespace Go.X
open Go.Proofs.Try (prog)

/-- A map's block. -/
def mapB (s : List Pr) : Blk := .cells 98 [[.sl (s.map Pr.row)]] 0

theorem le_seti {M N : Mem} {id : Nat} {b : Blk} (h1 : N id = some b) (h2 : ∀ k bk, k ≠ id → M k = some bk → N k = some bk) : (M.set id b).le N := by
  intro k bk hk
  rw [Mem.set_app] at hk
  by_cases e : id = k
  · rw [if_pos e] at hk
    rw [← e, h1]
    exact hk
  · rw [if_neg e] at hk
    exact h2 k bk (fun h => e h.symm) hk

theorem modelDo_spec (s : List Pr) (hl : s.length ≤ 1000001) (op : Opn) (id : Nat) (M : Mem) (hM : M id = some (mapB s)) :
    XCalls Go.Proofs.Try.prog 41 [.l (.ptr id 0 0), .agg op.row] M fun r M' => r = .agg (doA s op).row ∧ M' = M.set id (mapB (doL s op)) := by
  refine xcalls_intro (rs := [.cell 4 29]) Go.Proofs.Try.func41 rfl (by kernel_rfl) rfl rfl (by kernel_rfl) (by simp) ?_
  simp -implicitDefEqProofs (maxSteps := 1000000) (disch := omega) only [↓xsP, ↓vc_seq, xsQ, xsT, xsR, xsD, ↓reduceIte, reduceCtorEq, eq_self, ne_eq, imp_self, forall_const, Nat.reduceEqDiff, Nat.reduceAdd, Nat.reduceSub, Nat.reduceMul, Nat.reduceLT, Nat.reduceLeDiff, Nat.reduceBEq, Nat.reduceDiv, Nat.reduceMod, Int.reduceToNat, Int.reduceNeg, Int.reduceAdd, Int.reduceSub, Int.reduceMul, Int.reduceEq, Int.reduceNe, Int.reduceLT, Int.reduceLE, Int.reduceGT, Int.reduceGE]
  refine newI_intro fun p3 hp3 => ?_
  have h3 : id < p3 := lt_of_bnd hp3 hM
  simp -implicitDefEqProofs (maxSteps := 1000000) (disch := omega) only [↓xsP, ↓vc_seq, xsQ, xsT, xsR, xsD, ↓reduceIte, reduceCtorEq, eq_self, ne_eq, imp_self, forall_const, Nat.reduceEqDiff, Nat.reduceAdd, Nat.reduceSub, Nat.reduceMul, Nat.reduceLT, Nat.reduceLeDiff, Nat.reduceBEq, Nat.reduceDiv, Nat.reduceMod, Int.reduceToNat, Int.reduceNeg, Int.reduceAdd, Int.reduceSub, Int.reduceMul, Int.reduceEq, Int.reduceNe, Int.reduceLT, Int.reduceLE, Int.reduceGT, Int.reduceGE]
  refine newI_intro fun p4 hp4 => ?_
  obtain ⟨h34, hp4⟩ := bnd_new hp4
  simp -implicitDefEqProofs (maxSteps := 1000000) (disch := omega) only [↓xsP, ↓vc_seq, xsQ, xsT, xsR, xsD, ↓reduceIte, reduceCtorEq, eq_self, ne_eq, imp_self, forall_const, Nat.reduceEqDiff, Nat.reduceAdd, Nat.reduceSub, Nat.reduceMul, Nat.reduceLT, Nat.reduceLeDiff, Nat.reduceBEq, Nat.reduceDiv, Nat.reduceMod, Int.reduceToNat, Int.reduceNeg, Int.reduceAdd, Int.reduceSub, Int.reduceMul, Int.reduceEq, Int.reduceNe, Int.reduceLT, Int.reduceLE, Int.reduceGT, Int.reduceGE]
  refine newI_intro fun p5 hp5 => ?_
  obtain ⟨h45, hp5⟩ := bnd_new hp5
  obtain ⟨h35, hp5⟩ := bnd_new hp5
  simp -implicitDefEqProofs (maxSteps := 1000000) (disch := omega) only [↓xsP, ↓vc_seq, xsQ, xsT, xsR, xsD, ↓reduceIte, reduceCtorEq, eq_self, ne_eq, imp_self, forall_const, Nat.reduceEqDiff, Nat.reduceAdd, Nat.reduceSub, Nat.reduceMul, Nat.reduceLT, Nat.reduceLeDiff, Nat.reduceBEq, Nat.reduceDiv, Nat.reduceMod, Int.reduceToNat, Int.reduceNeg, Int.reduceAdd, Int.reduceSub, Int.reduceMul, Int.reduceEq, Int.reduceNe, Int.reduceLT, Int.reduceLE, Int.reduceGT, Int.reduceGE]
  refine xwrite (fun n0 => [ (12, id), (13, p5)]) [12, 13] [] [[], [], [], [], [], [], [], [], [], [12], [], [], [], []] (by kernel_rfl) (by kernel_rfl) (by kernel_rfl) (by kernel_rfl) (fun n0 hn0 => ⟨rfl, ?_, ?_⟩)
  · exact TOk_cons (.inl (by have := lt_of_bnd hn0 (Mem.set_eq _ p5 _); omega)) (TOk_cons (.inl (lt_of_bnd hn0 (Mem.set_eq _ p5 _))) (TOk_nil _ _))
  · simp -implicitDefEqProofs (maxSteps := 1000000) (disch := omega) only [↓xsP, ↓vc_seq, xsQ, xsT, xsR, xsD, ↓reduceIte, reduceCtorEq, eq_self, ne_eq, imp_self, forall_const, Nat.reduceEqDiff, Nat.reduceAdd, Nat.reduceSub, Nat.reduceMul, Nat.reduceLT, Nat.reduceLeDiff, Nat.reduceBEq, Nat.reduceDiv, Nat.reduceMod, Int.reduceToNat, Int.reduceNeg, Int.reduceAdd, Int.reduceSub, Int.reduceMul, Int.reduceEq, Int.reduceNe, Int.reduceLT, Int.reduceLE, Int.reduceGT, Int.reduceGE, hM, mapB]
    refine wcallI_of (fun M' _ => do_spec s hl op M') ?_
    simp -implicitDefEqProofs (maxSteps := 1000000) (disch := omega) only [↓xsP, ↓vc_seq, xsQ, xsT, xsR, xsD, ↓reduceIte, reduceCtorEq, eq_self, ne_eq, imp_self, forall_const, Nat.reduceEqDiff, Nat.reduceAdd, Nat.reduceSub, Nat.reduceMul, Nat.reduceLT, Nat.reduceLeDiff, Nat.reduceBEq, Nat.reduceDiv, Nat.reduceMod, Int.reduceToNat, Int.reduceNeg, Int.reduceAdd, Int.reduceSub, Int.reduceMul, Int.reduceEq, Int.reduceNe, Int.reduceLT, Int.reduceLE, Int.reduceGT, Int.reduceGE, hM, mapB]
    refine fin_ok (le_seti ?_ fun k bk hk h => ?_) ⟨rfl, rfl⟩
    · simp (disch := omega) only [Mem.set_eq, Mem.set_ne, mapB]
    · have := lt_of_bnd hp3 h
      simp (disch := omega) only [Mem.set_ne, h]

theorem modelDo_nil (op : Opn) (M : Mem) :
    XCalls Go.Proofs.Try.prog 41 [.l .nilp, .agg op.row] M fun r M' => r = .agg (Ans.row ⟨1, false, ⟨0, 0⟩, 0, []⟩) ∧ M' = M := by
  refine xcalls_intro (rs := [.cell 4 29]) Go.Proofs.Try.func41 rfl (by kernel_rfl) rfl rfl (by kernel_rfl) (by simp) ?_
  simp -implicitDefEqProofs (maxSteps := 1000000) (disch := omega) only [↓xsP, ↓vc_seq, xsQ, xsT, xsR, xsD, ↓reduceIte, reduceCtorEq, eq_self, ne_eq, imp_self, forall_const, Nat.reduceEqDiff, Nat.reduceAdd, Nat.reduceSub, Nat.reduceMul, Nat.reduceLT, Nat.reduceLeDiff, Nat.reduceBEq, Nat.reduceDiv, Nat.reduceMod, Int.reduceToNat, Int.reduceNeg, Int.reduceAdd, Int.reduceSub, Int.reduceMul, Int.reduceEq, Int.reduceNe, Int.reduceLT, Int.reduceLE, Int.reduceGT, Int.reduceGE]
  refine newI_intro fun p3 hp3 => ?_
  simp -implicitDefEqProofs (maxSteps := 1000000) (disch := omega) only [↓xsP, ↓vc_seq, xsQ, xsT, xsR, xsD, ↓reduceIte, reduceCtorEq, eq_self, ne_eq, imp_self, forall_const, Nat.reduceEqDiff, Nat.reduceAdd, Nat.reduceSub, Nat.reduceMul, Nat.reduceLT, Nat.reduceLeDiff, Nat.reduceBEq, Nat.reduceDiv, Nat.reduceMod, Int.reduceToNat, Int.reduceNeg, Int.reduceAdd, Int.reduceSub, Int.reduceMul, Int.reduceEq, Int.reduceNe, Int.reduceLT, Int.reduceLE, Int.reduceGT, Int.reduceGE]
  refine newI_intro fun p4 hp4' => ?_
  obtain ⟨h34, hp4⟩ := bnd_new hp4'
  simp -implicitDefEqProofs (maxSteps := 1000000) (disch := omega) only [↓xsP, ↓vc_seq, xsQ, xsT, xsR, xsD, ↓reduceIte, reduceCtorEq, eq_self, ne_eq, imp_self, forall_const, Nat.reduceEqDiff, Nat.reduceAdd, Nat.reduceSub, Nat.reduceMul, Nat.reduceLT, Nat.reduceLeDiff, Nat.reduceBEq, Nat.reduceDiv, Nat.reduceMod, Int.reduceToNat, Int.reduceNeg, Int.reduceAdd, Int.reduceSub, Int.reduceMul, Int.reduceEq, Int.reduceNe, Int.reduceLT, Int.reduceLE, Int.reduceGT, Int.reduceGE]
  exact finI_of (XFin.wk (XFin.le (le_new (le_new (Mem.le_refl _) hp3) hp4) ⟨rfl, rfl⟩))

theorem pairs_spec (s : List Pr) (hl : s.length ≤ 1000001) (id : Nat) (M : Mem) (hM : M id = some (mapB s)) :
    XCalls Go.Proofs.Try.prog 44 [.l (.ptr id 0 0)] M fun r M' => r = .l (.sl (s.map Pr.row)) ∧ M' = M := by
  refine xcalls_intro (rs := [.tmp 2]) Go.Proofs.Try.func44 rfl (by kernel_rfl) rfl rfl (by kernel_rfl) (by simp) ?_
  simp -implicitDefEqProofs (maxSteps := 1000000) (disch := omega) only [↓xsP, ↓vc_seq, xsQ, xsT, xsR, xsD, ↓reduceIte, reduceCtorEq, eq_self, ne_eq, imp_self, forall_const, Nat.reduceEqDiff, Nat.reduceAdd, Nat.reduceSub, Nat.reduceMul, Nat.reduceLT, Nat.reduceLeDiff, Nat.reduceBEq, Nat.reduceDiv, Nat.reduceMod, Int.reduceToNat, Int.reduceNeg, Int.reduceAdd, Int.reduceSub, Int.reduceMul, Int.reduceEq, Int.reduceNe, Int.reduceLT, Int.reduceLE, Int.reduceGT, Int.reduceGE, hM, mapB]
  refine call_of (clone_spec s hl M) ?_
  simp -implicitDefEqProofs (maxSteps := 1000000) (disch := omega) only [↓xsP, ↓vc_seq, xsQ, xsT, xsR, xsD, ↓reduceIte, reduceCtorEq, eq_self, ne_eq, imp_self, forall_const, Nat.reduceEqDiff, Nat.reduceAdd, Nat.reduceSub, Nat.reduceMul, Nat.reduceLT, Nat.reduceLeDiff, Nat.reduceBEq, Nat.reduceDiv, Nat.reduceMod, Int.reduceToNat, Int.reduceNeg, Int.reduceAdd, Int.reduceSub, Int.reduceMul, Int.reduceEq, Int.reduceNe, Int.reduceLT, Int.reduceLE, Int.reduceGT, Int.reduceGE]
  exact fin_ok (Mem.le_refl _) ⟨rfl, rfl⟩
theorem pairs_nil (M : Mem) : XCalls Go.Proofs.Try.prog 44 [.l .nilp] M fun r M' => r = .l (.sl []) ∧ M' = M := by
  refine xcalls_intro (rs := [.tmp 2]) Go.Proofs.Try.func44 rfl (by kernel_rfl) rfl rfl (by kernel_rfl) (by simp) ?_
  simp -implicitDefEqProofs (maxSteps := 1000000) (disch := omega) only [↓xsP, ↓vc_seq, xsQ, xsT, xsR, xsD, ↓reduceIte, reduceCtorEq, eq_self, ne_eq, imp_self, forall_const, Nat.reduceEqDiff, Nat.reduceAdd, Nat.reduceSub, Nat.reduceMul, Nat.reduceLT, Nat.reduceLeDiff, Nat.reduceBEq, Nat.reduceDiv, Nat.reduceMod, Int.reduceToNat, Int.reduceNeg, Int.reduceAdd, Int.reduceSub, Int.reduceMul, Int.reduceEq, Int.reduceNe, Int.reduceLT, Int.reduceLE, Int.reduceGT, Int.reduceGE]
  exact finI_of (XFin.wk (XFin.here ⟨rfl, rfl⟩))
def putOp (p : Pr) : Opn := ⟨1, p.key, 0, p.val⟩
noncomputable def putL (l : List Pr) : List Pr := l.foldl (fun s p => doL s (putOp p)) []
theorem putL_snoc (l : List Pr) (p : Pr) : putL (l ++ [p]) = doL (putL l) (putOp p) := by simp [putL, List.foldl_append]
theorem putL_take (l : List Pr) {i : Nat} (hi : i < l.length) : putL (l.take (i + 1)) = doL (putL (l.take i)) (putOp (l.getD i default)) := by
  have : l.take (i + 1) = l.take i ++ [l.getD i default] := by
    rw [List.take_add_one, List.getD_eq_getElem?_getD, List.getElem?_eq_getElem hi]
    rfl
  rw [this, putL_snoc]
theorem putL_len (l : List Pr) : (putL l).length ≤ l.length := by
  have key : ∀ (l s : List Pr), (l.foldl (fun s p => doL s (putOp p)) s).length ≤ s.length + l.length := by
    intro l
    induction l with
    | nil => intro s; simp
    | cons p r ih =>
      intro s
      have h1 := ih (doL s (putOp p))
      have h2 := doL_len s (putOp p)
      simp only [List.foldl_cons, List.length_cons]
      omega
  have := key l []
  rw [putL]
  simpa using this
theorem new_spec (l : List Pr) (hl : l.length ≤ 1000000) (M : Mem) :
    XCalls Go.Proofs.Try.prog 45 [.l (.sl (l.map Pr.row))] M fun r M' => ∃ id, (∀ j, id ≤ j → M j = none) ∧ r = .l (.ptr id 0 0) ∧ M' = M.set id (mapB (putL l)) := by
  refine xcalls_intro (rs := [.tmp 2]) Go.Proofs.Try.func45 rfl (by kernel_rfl) rfl rfl (by kernel_rfl) (by simp) ?_
  simp -implicitDefEqProofs (maxSteps := 1000000) (disch := omega) only [↓xsP, ↓vc_seq, xsQ, xsT, xsR, xsD, ↓reduceIte, reduceCtorEq, eq_self, ne_eq, imp_self, forall_const, Nat.reduceEqDiff, Nat.reduceAdd, Nat.reduceSub, Nat.reduceMul, Nat.reduceLT, Nat.reduceLeDiff, Nat.reduceBEq, Nat.reduceDiv, Nat.reduceMod, Int.reduceToNat, Int.reduceNeg, Int.reduceAdd, Int.reduceSub, Int.reduceMul, Int.reduceEq, Int.reduceNe, Int.reduceLT, Int.reduceLE, Int.reduceGT, Int.reduceGE]
  refine newI_intro fun id hid => ?_
  simp -implicitDefEqProofs (maxSteps := 1000000) (disch := omega) only [↓xsP, ↓vc_seq, xsQ, xsT, xsR, xsD, ↓reduceIte, reduceCtorEq, eq_self, ne_eq, imp_self, forall_const, Nat.reduceEqDiff, Nat.reduceAdd, Nat.reduceSub, Nat.reduceMul, Nat.reduceLT, Nat.reduceLeDiff, Nat.reduceBEq, Nat.reduceDiv, Nat.reduceMod, Int.reduceToNat, Int.reduceNeg, Int.reduceAdd, Int.reduceSub, Int.reduceMul, Int.reduceEq, Int.reduceNe, Int.reduceLT, Int.reduceLE, Int.reduceGT, Int.reduceGE]
  refine loopI_gs (GStep.wk (Mem.set_eq _ _ _)) ?_
  simp -implicitDefEqProofs (maxSteps := 1000000) (disch := omega) only [↓xsP, ↓vc_seq, xsQ, xsT, xsR, xsD, ↓reduceIte, reduceCtorEq, eq_self, ne_eq, imp_self, forall_const, Nat.reduceEqDiff, Nat.reduceAdd, Nat.reduceSub, Nat.reduceMul, Nat.reduceLT, Nat.reduceLeDiff, Nat.reduceBEq, Nat.reduceDiv, Nat.reduceMod, Int.reduceToNat, Int.reduceNeg, Int.reduceAdd, Int.reduceSub, Int.reduceMul, Int.reduceEq, Int.reduceNe, Int.reduceLT, Int.reduceLE, Int.reduceGT, Int.reduceGE]
  refine xloopG (by kernel_rfl) (fun k fr M' => ∃ i : Nat, i ≤ l.length ∧ k = l.length - i ∧ fr 3 = .l (.ptr id 0 0) ∧ fr 8 = .l (.sl (l.map Pr.row)) ∧ fr 9 = .l (.int .i64 l.length) ∧ fr 10 = .l (.int .i64 i) ∧ M' = M.set id (mapB (putL (l.take i)))) l.length ?_ ?_
  · refine ⟨0, Nat.zero_le _, rfl, ?_, ?_, ?_, ?_, ?_⟩
    · simp -implicitDefEqProofs (maxSteps := 1000000) (disch := omega) only [↓xsP, ↓vc_seq, xsQ, xsT, xsR, xsD, ↓reduceIte, reduceCtorEq, eq_self, ne_eq, imp_self, forall_const, Nat.reduceEqDiff, Nat.reduceAdd, Nat.reduceSub, Nat.reduceMul, Nat.reduceLT, Nat.reduceLeDiff, Nat.reduceBEq, Nat.reduceDiv, Nat.reduceMod, Int.reduceToNat, Int.reduceNeg, Int.reduceAdd, Int.reduceSub, Int.reduceMul, Int.reduceEq, Int.reduceNe, Int.reduceLT, Int.reduceLE, Int.reduceGT, Int.reduceGE]
    · simp -implicitDefEqProofs (maxSteps := 1000000) (disch := omega) only [↓xsP, ↓vc_seq, xsQ, xsT, xsR, xsD, ↓reduceIte, reduceCtorEq, eq_self, ne_eq, imp_self, forall_const, Nat.reduceEqDiff, Nat.reduceAdd, Nat.reduceSub, Nat.reduceMul, Nat.reduceLT, Nat.reduceLeDiff, Nat.reduceBEq, Nat.reduceDiv, Nat.reduceMod, Int.reduceToNat, Int.reduceNeg, Int.reduceAdd, Int.reduceSub, Int.reduceMul, Int.reduceEq, Int.reduceNe, Int.reduceLT, Int.reduceLE, Int.reduceGT, Int.reduceGE]
    · simp -implicitDefEqProofs (maxSteps := 1000000) (disch := omega) only [↓xsP, ↓vc_seq, xsQ, xsT, xsR, xsD, ↓reduceIte, reduceCtorEq, eq_self, ne_eq, imp_self, forall_const, Nat.reduceEqDiff, Nat.reduceAdd, Nat.reduceSub, Nat.reduceMul, Nat.reduceLT, Nat.reduceLeDiff, Nat.reduceBEq, Nat.reduceDiv, Nat.reduceMod, Int.reduceToNat, Int.reduceNeg, Int.reduceAdd, Int.reduceSub, Int.reduceMul, Int.reduceEq, Int.reduceNe, Int.reduceLT, Int.reduceLE, Int.reduceGT, Int.reduceGE]
    · simp -implicitDefEqProofs (maxSteps := 1000000) (disch := omega) only [↓xsP, ↓vc_seq, xsQ, xsT, xsR, xsD, ↓reduceIte, reduceCtorEq, eq_self, ne_eq, imp_self, forall_const, Nat.reduceEqDiff, Nat.reduceAdd, Nat.reduceSub, Nat.reduceMul, Nat.reduceLT, Nat.reduceLeDiff, Nat.reduceBEq, Nat.reduceDiv, Nat.reduceMod, Int.reduceToNat, Int.reduceNeg, Int.reduceAdd, Int.reduceSub, Int.reduceMul, Int.reduceEq, Int.reduceNe, Int.reduceLT, Int.reduceLE, Int.reduceGT, Int.reduceGE, Int.ofNat_zero]
    · rw [List.take_zero]
      rfl
  · rintro k fr M' ⟨i, hi, rfl, h3, h8, h9, h10, rfl⟩
    simp -implicitDefEqProofs (maxSteps := 1000000) (disch := omega) only [↓xsP, ↓vc_seq, xsQ, xsT, xsR, xsD, ↓reduceIte, reduceCtorEq, eq_self, ne_eq, imp_self, forall_const, Nat.reduceEqDiff, Nat.reduceAdd, Nat.reduceSub, Nat.reduceMul, Nat.reduceLT, Nat.reduceLeDiff, Nat.reduceBEq, Nat.reduceDiv, Nat.reduceMod, Int.reduceToNat, Int.reduceNeg, Int.reduceAdd, Int.reduceSub, Int.reduceMul, Int.reduceEq, Int.reduceNe, Int.reduceLT, Int.reduceLE, Int.reduceGT, Int.reduceGE, h3, h8, h9, h10]
    refine condI_prop (fun hp => ?_) (fun hp => ?_)
    · have hi' : i < l.length := by omega
      simp -implicitDefEqProofs (maxSteps := 1000000) (disch := omega) only [↓xsP, ↓vc_seq, xsQ, xsT, xsR, xsD, ↓reduceIte, reduceCtorEq, eq_self, ne_eq, imp_self, forall_const, Nat.reduceEqDiff, Nat.reduceAdd, Nat.reduceSub, Nat.reduceMul, Nat.reduceLT, Nat.reduceLeDiff, Nat.reduceBEq, Nat.reduceDiv, Nat.reduceMod, Int.reduceToNat, Int.reduceNeg, Int.reduceAdd, Int.reduceSub, Int.reduceMul, Int.reduceEq, Int.reduceNe, Int.reduceLT, Int.reduceLE, Int.reduceGT, Int.reduceGE, h3, h8, h9, h10]
      refine newI_intro fun p5 hp5 => ?_
      have hg : l[i]? = some (l.getD i default) := by rw [List.getD_eq_getElem?_getD, List.getElem?_eq_getElem hi']; rfl
      generalize hq : l.getD i default = q at hg
      simp -implicitDefEqProofs (maxSteps := 1000000) (disch := omega) only [↓xsP, ↓vc_seq, xsQ, xsT, xsR, xsD, ↓reduceIte, reduceCtorEq, eq_self, ne_eq, imp_self, forall_const, Nat.reduceEqDiff, Nat.reduceAdd, Nat.reduceSub, Nat.reduceMul, Nat.reduceLT, Nat.reduceLeDiff, Nat.reduceBEq, Nat.reduceDiv, Nat.reduceMod, Int.reduceToNat, Int.reduceNeg, Int.reduceAdd, Int.reduceSub, Int.reduceMul, Int.reduceEq, Int.reduceNe, Int.reduceLT, Int.reduceLE, Int.reduceGT, Int.reduceGE, h3, h8, h9, h10, hg]
      refine callI_of ((modelDo_spec (putL (l.take i)) (by have := putL_len (l.take i); rw [List.length_take] at this; omega) (putOp q) id _ ?_).mono ?_)
      · have h5 := lt_of_bnd hp5 (Mem.set_eq _ _ _)
        simp (disch := omega) only [Mem.set_eq, Mem.set_ne]
      · rintro _ _ ⟨rfl, rfl⟩
        have h5 := lt_of_bnd hp5 (Mem.set_eq _ _ _)
        have hpM := (bnd_new hp5).2
        simp -implicitDefEqProofs (maxSteps := 1000000) (disch := omega) only [↓xsP, ↓vc_seq, xsQ, xsT, xsR, xsD, ↓reduceIte, reduceCtorEq, eq_self, ne_eq, imp_self, forall_const, Nat.reduceEqDiff, Nat.reduceAdd, Nat.reduceSub, Nat.reduceMul, Nat.reduceLT, Nat.reduceLeDiff, Nat.reduceBEq, Nat.reduceDiv, Nat.reduceMod, Int.reduceToNat, Int.reduceNeg, Int.reduceAdd, Int.reduceSub, Int.reduceMul, Int.reduceEq, Int.reduceNe, Int.reduceLT, Int.reduceLE, Int.reduceGT, Int.reduceGE, h3, h8, h9, h10]
        refine ⟨_, _, ?_, GStep.le (le_seti (N := _) (b := mapB (putL (l.take (i + 1)))) (M := M) ?_ fun k bk hk h => ?_), i + 1, by omega, rfl, rfl, rfl⟩
        · omega
        · rw [putL_take _ hi', hq, Mem.set_eq]
        · have := lt_of_bnd hid h
          simp (disch := omega) only [Mem.set_ne, h]
    · have hi' : i = l.length := by omega
      subst hi'
      simp -implicitDefEqProofs (maxSteps := 1000000) (disch := omega) only [↓xsP, ↓vc_seq, xsQ, xsT, xsR, xsD, ↓reduceIte, reduceCtorEq, eq_self, ne_eq, imp_self, forall_const, Nat.reduceEqDiff, Nat.reduceAdd, Nat.reduceSub, Nat.reduceMul, Nat.reduceLT, Nat.reduceLeDiff, Nat.reduceBEq, Nat.reduceDiv, Nat.reduceMod, Int.reduceToNat, Int.reduceNeg, Int.reduceAdd, Int.reduceSub, Int.reduceMul, Int.reduceEq, Int.reduceNe, Int.reduceLT, Int.reduceLE, Int.reduceGT, Int.reduceGE, h3]
      refine fin_ok (Mem.le_refl _) ⟨id, hid, rfl, ?_⟩
      rw [List.take_length]

/-- A slice of operations, kept or of a live block. -/
def OpsIs (M : Mem) (s : Lf) (l : List Opn) : Prop := ∃ ido keep, (s = .sl (l.map Opn.row) ∧ True) ∨ (s = .ms ido 0 l.length ∧ M ido = some (.cells 23 (l.map Opn.row) keep))
theorem OpsIs.sl (M : Mem) (l : List Opn) : OpsIs M (.sl (l.map Opn.row)) l := ⟨0, 0, .inl ⟨rfl, trivial⟩⟩
theorem OpsIs.ms {M : Mem} {l : List Opn} {id n keep : Nat} {rows : List (List Lf)} (h : M id = some (.cells 23 rows keep)) (hr : rows = l.map Opn.row) (hn : n = l.length) : OpsIs M (.ms id 0 n) l := ⟨id, keep, .inr ⟨by rw [hn], by rw [h, hr]⟩⟩
noncomputable def runL (s : List Pr) (ops : List Opn) : List Pr := ops.foldl doL s
noncomputable def runA : List Pr → List Opn → List Ans
  | _, [] => []
  | s, op :: r => doA s op :: runA (doL s op) r
theorem runL_snoc (s : List Pr) (l : List Opn) (op : Opn) : runL s (l ++ [op]) = doL (runL s l) op := by simp [runL, List.foldl_append]
theorem runA_snoc (s : List Pr) (l : List Opn) (op : Opn) : runA s (l ++ [op]) = runA s l ++ [doA (runL s l) op] := by
  induction l generalizing s with
  | nil => rfl
  | cons x r ih => 
    show doA s x :: runA (doL s x) (r ++ [op]) = _
    rw [ih]
    rfl
theorem runA_len (s : List Pr) (l : List Opn) : (runA s l).length = l.length := by
  induction l generalizing s with
  | nil => rfl
  | cons x r ih => simp [runA, ih]
theorem take_snoc {α : Type} [Inhabited α] (l : List α) {i : Nat} (hi : i < l.length) : l.take (i + 1) = l.take i ++ [l.getD i default] := by
  rw [List.take_add_one, List.getD_eq_getElem?_getD, List.getElem?_eq_getElem hi]
  rfl
theorem runL_len (s : List Pr) (l : List Opn) : (runL s l).length ≤ s.length + l.length := by
  induction l generalizing s with
  | nil => simp [runL]
  | cons x r ih =>
    have h1 := ih (doL s x)
    have h2 := doL_len s x
    have h3 : runL s (x :: r) = runL (doL s x) r := rfl
    rw [h3]
    simp only [List.length_cons]
    omega
theorem le_seti2 {M N : Mem} {id id2 : Nat} {b b2 : Blk} (h1 : N id = some b) (h1' : N id2 = some b2) (h2 : ∀ k bk, k ≠ id → k ≠ id2 → M k = some bk → N k = some bk) : ((M.set id b).set id2 b2).le N := by
  intro k bk hk
  rw [Mem.set_app] at hk
  by_cases e : id2 = k
  · rw [if_pos e] at hk
    rw [← e, h1']
    exact hk
  · rw [if_neg e, Mem.set_app] at hk
    by_cases e' : id = k
    · rw [if_pos e'] at hk
      rw [← e', h1]
      exact hk
    · rw [if_neg e'] at hk
      exact h2 k bk (fun h => e' h.symm) (fun h => e h.symm) hk

def aw16 : List Pr := [⟨1, 5⟩]
def aw16o : List Opn := [⟨1, 1, 0, 6⟩, ⟨4, 1, 0, 0⟩]
theorem asc1 (p : Pr) : Asc [p] := by simp [Asc]
theorem aw16_put : putL aw16 = [⟨1, 5⟩] := by
  show doL [] ⟨1, 1, 0, 5⟩ = _
  rw [doL_upd (by simp [Asc]) (by decide) (by decide)]
  decide
theorem aw16_l : runL (putL aw16) aw16o = [⟨1, 6⟩] := by
  rw [aw16_put]
  show doL (doL [⟨1, 5⟩] ⟨1, 1, 0, 6⟩) ⟨4, 1, 0, 0⟩ = _
  rw [doL_read (by decide), doL_upd (asc1 _) (by decide) (by decide)]
  decide
theorem aw16_a : runA (putL aw16) aw16o = [⟨0, true, ⟨1, 5⟩, 0, []⟩, ⟨0, true, ⟨1, 6⟩, 0, []⟩] := by
  rw [aw16_put]
  show [doA [⟨1, 5⟩] ⟨1, 1, 0, 6⟩, doA (doL [⟨1, 5⟩] ⟨1, 1, 0, 6⟩) ⟨4, 1, 0, 0⟩] = _
  have e : doL [⟨1, 5⟩] ⟨1, 1, 0, 6⟩ = [⟨1, 6⟩] := by
    rw [doL_upd (asc1 _) (by decide) (by decide)]
    decide
  rw [e, doA_one (asc1 _) (by decide) (by decide), doA_one (asc1 _) (by decide) (by decide)]
  decide
end Go.X

/- Plain laws of maps made of pairs. -/

set_option linter.unusedVariables false
set_option maxRecDepth 100000
namespace Go.X

theorem putL_asc (l : List Pr) : Asc (putL l) := by
  have key : ∀ (l s : List Pr), Asc s → Asc (l.foldl (fun s p => doL s (putOp p)) s) := by
    intro l
    induction l with
    | nil => intro s h; exact h
    | cons p r ih => intro s h; exact ih _ (doL_asc _ h)
  exact key l [] (by simp [Asc])
theorem put_look {s : List Pr} (h : Asc s) (p : Pr) (k : Int) : look (doL s (putOp p)) k = if k = p.key then some p.val else look s k := by
  rw [doL_look h (by simp [mayOpB, putOp]) (by simp [putOp]), upd1.eq_def]
  simp [putOp]
/-- The last value of a key. -/
def lastV (k : Int) (o : Option Int) (l : List Pr) : Option Int := l.foldl (fun o p => if k = p.key then some p.val else o) o
theorem puts_look (k : Int) : ∀ (l s : List Pr), Asc s → look (l.foldl (fun s p => doL s (putOp p)) s) k = lastV k (look s k) l
  | [], s, _ => rfl
  | p :: r, s, h => by
    rw [List.foldl_cons, puts_look k r _ (doL_asc _ h), put_look h]
    rfl
theorem putL_look (l : List Pr) (k : Int) : look (putL l) k = lastV k none l := puts_look k l [] (by simp [Asc])
theorem look_mem {l : List Pr} {p : Pr} (h : p ∈ l) : ∃ v, look l p.key = some v := by
  induction l with
  | nil => cases h
  | cons x r ih =>
    rw [look]
    by_cases e : x.key = p.key
    · exact ⟨x.val, if_pos e⟩
    · rw [if_neg e]
      rcases List.mem_cons.1 h with rfl | h'
      · exact absurd rfl e
      · exact ih h'
theorem lastV_key {k v : Int} : ∀ {l : List Pr} {o : Option Int}, lastV k o l = some v → o = some v ∨ ∃ p ∈ l, p.key = k
  | [], o, h => .inl h
  | p :: r, o, h => by
    rw [lastV, List.foldl_cons] at h
    rcases lastV_key (l := r) h with h' | ⟨q, hq, e⟩
    · by_cases e : k = p.key
      · exact .inr ⟨p, by simp, e.symm⟩
      · rw [if_neg e] at h'
        exact .inl h'
    · exact .inr ⟨q, by simp [hq], e⟩
theorem putL_keys {Q : Int → Prop} (l : List Pr) (h : ∀ p ∈ l, Q p.key) : ∀ p ∈ putL l, Q p.key := fun p hp => by
  obtain ⟨v, hv⟩ := look_mem hp
  rw [putL_look] at hv
  rcases lastV_key hv with h' | ⟨q, hq, e⟩
  · cases h'
  · rw [← e]
    exact h q hq
end Go.X

/- More arguments: an answer, a pair, operations; pairs whose keys are within int's bounds. -/

set_option linter.unusedVariables false
set_option linter.unusedSimpArgs false
set_option maxRecDepth 100000
namespace Go.X
open Go.Proofs.Try (prog)
open Go.RowKit Go.ChangeShapes Go.WideShapes Go.ChangeAt

def IntOk (n : Int) : Prop := -9223372036854775808 ≤ n ∧ n ≤ 9223372036854775807
def IsIr (ls : List Lf) : Prop := ∃ n, ls = [.int .i64 n] ∧ IntOk n
theorem o_ir {t : TypeId} (ht : Go.Proofs.Try.prog.underlying t = some (.int .i64)) : Opens Go.Proofs.Try.prog t IsIr := (opens_int ht).mono fun ls ⟨n, h, hwf⟩ => ⟨n, h, by
  simp [Lit.wf, IntKind.min, IntKind.max, IntKind.bits, IntKind.signed] at hwf
  unfold IntOk
  omega⟩
theorem o_prr : Opens Go.Proofs.Try.prog 26 fun ls => ∃ p : Pr, ls = p.row ∧ IntOk p.key := by
  refine (opens_tys (ts := [3, 3]) (by kernel_rfl) [IsIr, IsI] ⟨o_ir (by kernel_rfl), o_i (by kernel_rfl), trivial⟩).mono ?_
  rintro ls ⟨a, b, rfl, ⟨x, rfl, hx⟩, c, d, rfl, ⟨y, rfl⟩, rfl⟩
  exact ⟨⟨x, y⟩, rfl, hx⟩
theorem o_prsr : Opens Go.Proofs.Try.prog 27 fun ls => ∃ ps : List Pr, ls = [.sl (ps.map Pr.row)] ∧ ps.length ≤ big ∧ ∀ p ∈ ps, IntOk p.key := by
  refine (opens_slice (by kernel_rfl) o_prr (of_decide_eq_true (by kernel_rfl))).mono ?_
  rintro ls ⟨rows, rfl, hr, hb⟩
  obtain ⟨ps, rfl, h2⟩ := rows_map hr
  exact ⟨ps, rfl, by simpa using len_of (of_decide_eq_true (by kernel_rfl)) hb, h2⟩
theorem o_ops : Opens Go.Proofs.Try.prog 43 fun ls => ∃ os : List Opn, ls = [.sl (os.map Opn.row)] ∧ os.length ≤ big := by
  refine (opens_slice (by kernel_rfl) (o_op.mono fun ls ⟨o, h⟩ => (⟨o, h, trivial⟩ : ∃ o : Opn, ls = o.row ∧ True)) (of_decide_eq_true (by kernel_rfl))).mono ?_
  rintro ls ⟨rows, rfl, hr, hb⟩
  obtain ⟨ps, rfl, _⟩ := rows_map hr
  exact ⟨ps, rfl, by simpa using len_of (of_decide_eq_true (by kernel_rfl)) hb⟩
section
variable {H : Type} {enc : TypeId × Value → H} {W : World} {base : Nat} {v : Value} {d : DataW H} {p : List MemPlace}
theorem arg_prsr (hok : Value.okWide Go.Proofs.Try.prog W .any base 27 v) (h : DataW.Trod enc Go.Proofs.Try.prog W 0 (fun _ => true) true 27 v d p) (hw : ∀ n ∈ d.weights Go.Proofs.Try.prog 27, n ≤ reachBytes) :
    ∃ l : List Pr, ConcA (g0 Go.Proofs.Try.prog W) W (.l (.sl (l.map Pr.row))) v ∧ l.length ≤ big ∧ ∀ p ∈ l, IntOk p.key := by
  obtain ⟨x, h1, l, rfl, h2⟩ := arg_l (R := fun x => ∃ h : List Pr, x = .sl (h.map Pr.row) ∧ h.length ≤ big ∧ ∀ p ∈ h, IntOk p.key) (e := 26) (by kernel_rfl) (o_prsr.mono fun ls ⟨l, h3, h4⟩ => ⟨_, h3, l, rfl, h4⟩) hok h hw
  exact ⟨l, h1, h2⟩
theorem arg_ops (hok : Value.okWide Go.Proofs.Try.prog W .any base 43 v) (h : DataW.Trod enc Go.Proofs.Try.prog W 0 (fun _ => true) true 43 v d p) (hw : ∀ n ∈ d.weights Go.Proofs.Try.prog 43, n ≤ reachBytes) :
    ∃ l : List Opn, ConcA (g0 Go.Proofs.Try.prog W) W (.l (.sl (l.map Opn.row))) v ∧ l.length ≤ big := by
  obtain ⟨x, h1, l, rfl, h2⟩ := arg_l (R := fun x => ∃ h : List Opn, x = .sl (h.map Opn.row) ∧ h.length ≤ big) (e := 23) (by kernel_rfl) (o_ops.mono fun ls ⟨l, h3, h4⟩ => ⟨_, h3, l, rfl, h4⟩) hok h hw
  exact ⟨l, h1, h2⟩
theorem arg_ans (hok : Value.okWide Go.Proofs.Try.prog W .any base 29 v) (h : DataW.Trod enc Go.Proofs.Try.prog W 0 (fun _ => true) true 29 v d p) (hw : ∀ n ∈ d.weights Go.Proofs.Try.prog 29, n ≤ reachBytes) :
    ∃ a : Ans, ConcA (g0 Go.Proofs.Try.prog W) W (.agg a.row) v ∧ a.pairs.length ≤ big := by
  obtain ⟨fs, hu⟩ : ∃ fs, Go.Proofs.Try.prog.underlying 29 = some (.struct fs) := struct_of (by kernel_rfl)
  obtain ⟨ls, h1, o, rfl, h2⟩ := arg_agg hu o_ans hok h hw
  exact ⟨o, h1, h2⟩
theorem arg_pr (hok : Value.okWide Go.Proofs.Try.prog W .any base 26 v) (h : DataW.Trod enc Go.Proofs.Try.prog W 0 (fun _ => true) true 26 v d p) (hw : ∀ n ∈ d.weights Go.Proofs.Try.prog 26, n ≤ reachBytes) :
    ∃ o : Pr, ConcA (g0 Go.Proofs.Try.prog W) W (.agg o.row) v := by
  obtain ⟨fs, hu⟩ : ∃ fs, Go.Proofs.Try.prog.underlying 26 = some (.struct fs) := struct_of (by kernel_rfl)
  obtain ⟨ls, h1, o, rfl, _⟩ := arg_agg hu o_pr hok h hw
  exact ⟨o, h1⟩
end
end Go.X

/- What the reference's functions on pairs do: With, Without, Between, Find. -/

set_option linter.unusedVariables false
set_option linter.unusedSimpArgs false
set_option maxHeartbeats 20000000
set_option maxRecDepth 100000
namespace Go.X
open Go.Proofs.Try (prog)

/-- A row of pairs that is being made by append: its slice and the memory. -/
def OutP (M : Mem) (v : AV) (M' : Mem) (rows : List Pr) : Prop :=
  (rows = [] ∧ v = .l .nils ∧ M' = M) ∨ ∃ idO, (∀ j, idO ≤ j → M j = none) ∧ v = .l (.ms idO 0 rows.length) ∧ M' = M.set idO (.cells 26 (rows.map Pr.row) 0)
theorem OutP.nil (M : Mem) : OutP M (.l .nils) M [] := .inl ⟨rfl, rfl, rfl⟩
theorem OutP.base {M M' : Mem} {v : AV} {rows : List Pr} (h : OutP M v M' rows) : M.le M' := by
  rcases h with ⟨_, _, rfl⟩ | ⟨idO, hO, _, rfl⟩
  · exact Mem.le_refl _
  · exact le_new (Mem.le_refl _) hO
theorem le_none {M N : Mem} (h : M.le N) {n : Nat} (hn : ∀ j, n ≤ j → N j = none) : ∀ j, n ≤ j → M j = none := fun j hj => by
  cases hq : M j with
  | none => rfl
  | some b => have := h _ _ hq; rw [hn j hj] at this; cases this
theorem OutP.val {M M' : Mem} {v : AV} {rows : List Pr} (h : OutP M v M' rows) : ∃ s, v = .l s := by
  rcases h with ⟨_, rfl, _⟩ | ⟨idO, _, rfl, _⟩
  · exact ⟨_, rfl⟩
  · exact ⟨_, rfl⟩
theorem app_out {M M' N : Mem} {v : AV} {rows : List Pr} {p : Pr} {pb : Nat} (h : OutP M v M' rows) (hle : M'.le N) (hb : ∀ j, pb ≤ j → N j = none) (hlen : rows.length ≤ 1000001) {K : AV → Mem → Prop}
    (hc : ∀ v' N' M2, OutP M v' M2 (rows ++ [p]) → M2.le N' → (∀ k bk, N k = some bk → M' k = none → N' k = some bk) → K v' N') :
    @appI Go.Proofs.Try.prog (N.set pb (.cells 26 [p.row] 0)) 27 27 v (.l (.ms pb 0 1)) ⟨K⟩ := by
  have hMM := h.base
  rcases h with ⟨rfl, rfl, rfl⟩ | ⟨idO, hO, rfl, rfl⟩
  · refine app_nils _ _ _ _ 26 _ _ ti_27 rfl ti_26 (by kernel_rfl) (by decide) _ [p.row] ?_ ?_ ?_ ?_ ?_
    · simp -implicitDefEqProofs (maxSteps := 1000000) (disch := omega) only [↓xsP, ↓vc_seq, xsQ, xsT, xsR, xsD, ↓reduceIte, reduceCtorEq, eq_self, ne_eq, imp_self, forall_const, Nat.reduceEqDiff, Nat.reduceAdd, Nat.reduceSub, Nat.reduceMul, Nat.reduceLT, Nat.reduceLeDiff, Nat.reduceBEq, Nat.reduceDiv, Nat.reduceMod, Int.reduceToNat, Int.reduceNeg, Int.reduceAdd, Int.reduceSub, Int.reduceMul, Int.reduceEq, Int.reduceNe, Int.reduceLT, Int.reduceLE, Int.reduceGT, Int.reduceGE]
    · simp
    · simp
    · simp
    · intro _ idA hidA
      obtain ⟨hbA, hA⟩ := bnd_new hidA
      have hM := le_none hle hA
      refine hc _ _ _ (.inr ⟨idA, hM, rfl, rfl⟩) (le_seti (Mem.set_eq _ _ _) fun k bk hk hh => ?_) fun k bk hk _ => ?_
      · have h1 := hle _ _ hh
        have := lt_of_bnd hb h1
        have := lt_of_bnd hA h1
        rw [Mem.set_ne _ _ _ _ (by omega), Mem.set_ne _ _ _ _ (by omega)]
        exact h1
      · have := lt_of_bnd hb hk
        have := lt_of_bnd hA hk
        rw [Mem.set_ne _ _ _ _ (by omega), Mem.set_ne _ _ _ _ (by omega)]
        exact hk
  · have hNO : N idO = some (.cells 26 (rows.map Pr.row) 0) := hle _ _ (Mem.set_eq _ _ _)
    have hOb := lt_of_bnd hb hNO
    refine app_ms _ _ _ _ 26 _ _ ti_27 rfl ti_26 (by kernel_rfl) (by decide) idO rows.length _ (rows := rows.map Pr.row) (keep := 0) [p.row] ?_ ?_ ?_ (Nat.zero_le _) ?_ ?_ ?_
    · rw [Mem.set_ne _ _ _ _ (by omega)]; exact hNO
    · simp -implicitDefEqProofs (maxSteps := 1000000) (disch := omega) only [↓xsP, ↓vc_seq, xsQ, xsT, xsR, xsD, ↓reduceIte, reduceCtorEq, eq_self, ne_eq, imp_self, forall_const, Nat.reduceEqDiff, Nat.reduceAdd, Nat.reduceSub, Nat.reduceMul, Nat.reduceLT, Nat.reduceLeDiff, Nat.reduceBEq, Nat.reduceDiv, Nat.reduceMod, Int.reduceToNat, Int.reduceNeg, Int.reduceAdd, Int.reduceSub, Int.reduceMul, Int.reduceEq, Int.reduceNe, Int.reduceLT, Int.reduceLE, Int.reduceGT, Int.reduceGE]
    · simp
    · exact Nat.le_trans (Nat.mul_le_mul_right _ (show rows.length + [p.row].length ≤ 1000002 by simp; omega)) (by decide)
    · simp
      omega
    · intro idA hidA
      obtain ⟨hbA, hA⟩ := bnd_new hidA
      have hM := le_none hMM (le_none hle hA)
      have hOA := lt_of_bnd hA hNO
      refine hc _ _ _ (.inr ⟨idA, hM, by simp, rfl⟩) (le_seti ?_ fun k bk hk hh => ?_) fun k bk hk hn => ?_
      · rw [Mem.set_eq, List.take_of_length_le (by simp), List.map_append]
        rfl
      · have h0 := lt_of_bnd hO hh
        have h1 := hle _ _ (hMM _ _ hh)
        have := lt_of_bnd hb h1
        have := lt_of_bnd hA h1
        rw [Mem.set_ne _ _ _ _ (by omega), Mem.del_ne _ _ _ (by omega), Mem.set_ne _ _ _ _ (by omega)]
        exact h1
      · have hne : idO ≠ k := fun e => by subst e; rw [Mem.set_eq] at hn; cases hn
        have := lt_of_bnd hb hk
        have := lt_of_bnd hA hk
        rw [Mem.set_ne _ _ _ _ (by omega), Mem.del_ne _ _ _ hne, Mem.set_ne _ _ _ _ (by omega)]
        exact hk
theorem fin_out {M M' N : Mem} {v : AV} {rows : List Pr} {K : AV → Mem → Prop} (h : OutP M v M' rows) (hle : M'.le N) {M0 : Mem} (h0 : M0.le M) (hK : K (.l (.sl (rows.map Pr.row))) M0) : @finI Go.Proofs.Try.prog v N ⟨K⟩ := by
  refine finI_of ?_
  rcases h with ⟨rfl, rfl, rfl⟩ | ⟨idO, hO, rfl, rfl⟩
  · exact XFin.wk (XFin.le (fun k bk hk => hle _ _ (h0 _ _ hk)) hK)
  · refine XFin.frz idO (hle _ _ (Mem.set_eq _ _ _)) (XFin.le (fun k bk hk => ?_) (M' := M0) ?_)
    · have hk' := h0 _ _ hk
      have := lt_of_bnd hO hk'
      rw [Mem.set_ne _ _ _ _ (by omega)]
      exact hle _ _ (le_new (Mem.le_refl _) hO _ _ hk')
    · have e : frzA idO (rows.map Pr.row) (.l (.ms idO 0 rows.length)) = .l (.sl (rows.map Pr.row)) := by simp [frzA, frz1, frzL, List.take_of_length_le]
      rw [e]
      exact hK

theorem filter_take {q : Pr → Bool} {l : List Pr} {i : Nat} (hi : i < l.length) : (l.take (i + 1)).filter q = if q (l.getD i default) then (l.take i).filter q ++ [l.getD i default] else (l.take i).filter q := by
  rw [take_snoc l hi, List.filter_append]
  generalize l.getD i default = x
  cases h : q x
  · rw [List.filter_cons, h]; simp
  · rw [List.filter_cons, h]; simp
theorem filter_take_len (q : Pr → Bool) (l : List Pr) (i : Nat) : ((l.take i).filter q).length ≤ l.length := by
  have h1 := List.length_filter_le q (l.take i)
  rw [List.length_take] at h1
  omega

theorem without_spec (l : List Pr) (hl : l.length ≤ 1000001) (key : Int) (M : Mem) :
    XCalls Go.Proofs.Try.prog 47 [.l (.sl (l.map Pr.row)), .l (.int .i64 key)] M fun r M' => r = .l (.sl ((l.filter fun p => decide (p.key ≠ key)).map Pr.row)) ∧ M' = M := by
  refine xcalls_intro (rs := [.tmp 4]) Go.Proofs.Try.func47 rfl (by kernel_rfl) rfl rfl (by kernel_rfl) (by simp) ?_
  simp -implicitDefEqProofs (maxSteps := 1000000) (disch := omega) only [↓xsP, ↓vc_seq, xsQ, xsT, xsR, xsD, ↓reduceIte, reduceCtorEq, eq_self, ne_eq, imp_self, forall_const, Nat.reduceEqDiff, Nat.reduceAdd, Nat.reduceSub, Nat.reduceMul, Nat.reduceLT, Nat.reduceLeDiff, Nat.reduceBEq, Nat.reduceDiv, Nat.reduceMod, Int.reduceToNat, Int.reduceNeg, Int.reduceAdd, Int.reduceSub, Int.reduceMul, Int.reduceEq, Int.reduceNe, Int.reduceLT, Int.reduceLE, Int.reduceGT, Int.reduceGE]
  refine loopI_of (xloop (by kernel_rfl) (fun k fr M' => ∃ i : Nat, i ≤ l.length ∧ k = l.length - i ∧ fr 1 = .l (.int .i64 key) ∧ fr 8 = .l (.sl (l.map Pr.row)) ∧ fr 9 = .l (.int .i64 l.length) ∧ fr 10 = .l (.int .i64 i) ∧ OutP M (fr 5) M' ((l.take i).filter fun p => decide (p.key ≠ key))) l.length ?_ ?_)
  · refine ⟨0, Nat.zero_le _, rfl, by simp -implicitDefEqProofs (maxSteps := 1000000) (disch := omega) only [↓xsP, ↓vc_seq, xsQ, xsT, xsR, xsD, ↓reduceIte, reduceCtorEq, eq_self, ne_eq, imp_self, forall_const, Nat.reduceEqDiff, Nat.reduceAdd, Nat.reduceSub, Nat.reduceMul, Nat.reduceLT, Nat.reduceLeDiff, Nat.reduceBEq, Nat.reduceDiv, Nat.reduceMod, Int.reduceToNat, Int.reduceNeg, Int.reduceAdd, Int.reduceSub, Int.reduceMul, Int.reduceEq, Int.reduceNe, Int.reduceLT, Int.reduceLE, Int.reduceGT, Int.reduceGE], by simp -implicitDefEqProofs (maxSteps := 1000000) (disch := omega) only [↓xsP, ↓vc_seq, xsQ, xsT, xsR, xsD, ↓reduceIte, reduceCtorEq, eq_self, ne_eq, imp_self, forall_const, Nat.reduceEqDiff, Nat.reduceAdd, Nat.reduceSub, Nat.reduceMul, Nat.reduceLT, Nat.reduceLeDiff, Nat.reduceBEq, Nat.reduceDiv, Nat.reduceMod, Int.reduceToNat, Int.reduceNeg, Int.reduceAdd, Int.reduceSub, Int.reduceMul, Int.reduceEq, Int.reduceNe, Int.reduceLT, Int.reduceLE, Int.reduceGT, Int.reduceGE], by simp -implicitDefEqProofs (maxSteps := 1000000) (disch := omega) only [↓xsP, ↓vc_seq, xsQ, xsT, xsR, xsD, ↓reduceIte, reduceCtorEq, eq_self, ne_eq, imp_self, forall_const, Nat.reduceEqDiff, Nat.reduceAdd, Nat.reduceSub, Nat.reduceMul, Nat.reduceLT, Nat.reduceLeDiff, Nat.reduceBEq, Nat.reduceDiv, Nat.reduceMod, Int.reduceToNat, Int.reduceNeg, Int.reduceAdd, Int.reduceSub, Int.reduceMul, Int.reduceEq, Int.reduceNe, Int.reduceLT, Int.reduceLE, Int.reduceGT, Int.reduceGE], by simp -implicitDefEqProofs (maxSteps := 1000000) (disch := omega) only [↓xsP, ↓vc_seq, xsQ, xsT, xsR, xsD, ↓reduceIte, reduceCtorEq, eq_self, ne_eq, imp_self, forall_const, Nat.reduceEqDiff, Nat.reduceAdd, Nat.reduceSub, Nat.reduceMul, Nat.reduceLT, Nat.reduceLeDiff, Nat.reduceBEq, Nat.reduceDiv, Nat.reduceMod, Int.reduceToNat, Int.reduceNeg, Int.reduceAdd, Int.reduceSub, Int.reduceMul, Int.reduceEq, Int.reduceNe, Int.reduceLT, Int.reduceLE, Int.reduceGT, Int.reduceGE, Int.cast_ofNat_Int], ?_⟩
    simp -implicitDefEqProofs (maxSteps := 1000000) (disch := omega) only [↓xsP, ↓vc_seq, xsQ, xsT, xsR, xsD, ↓reduceIte, reduceCtorEq, eq_self, ne_eq, imp_self, forall_const, Nat.reduceEqDiff, Nat.reduceAdd, Nat.reduceSub, Nat.reduceMul, Nat.reduceLT, Nat.reduceLeDiff, Nat.reduceBEq, Nat.reduceDiv, Nat.reduceMod, Int.reduceToNat, Int.reduceNeg, Int.reduceAdd, Int.reduceSub, Int.reduceMul, Int.reduceEq, Int.reduceNe, Int.reduceLT, Int.reduceLE, Int.reduceGT, Int.reduceGE]
    exact OutP.nil M
  · rintro k fr M' ⟨i, hi, rfl, h1, h8, h9, h10, hO⟩
    obtain ⟨s5, h5⟩ := hO.val
    rw [h5] at hO
    simp -implicitDefEqProofs (maxSteps := 1000000) (disch := omega) only [↓xsP, ↓vc_seq, xsQ, xsT, xsR, xsD, ↓reduceIte, reduceCtorEq, eq_self, ne_eq, imp_self, forall_const, Nat.reduceEqDiff, Nat.reduceAdd, Nat.reduceSub, Nat.reduceMul, Nat.reduceLT, Nat.reduceLeDiff, Nat.reduceBEq, Nat.reduceDiv, Nat.reduceMod, Int.reduceToNat, Int.reduceNeg, Int.reduceAdd, Int.reduceSub, Int.reduceMul, Int.reduceEq, Int.reduceNe, Int.reduceLT, Int.reduceLE, Int.reduceGT, Int.reduceGE, h5, h1, h8, h9, h10]
    refine condI_prop (fun hlt => ?_) (fun hlt => ?_)
    · have hi' : i < l.length := by omega
      have hft := filter_take (q := fun p => decide (p.key ≠ key)) hi'
      have hfl := filter_take_len (fun p => decide (p.key ≠ key)) l i
      obtain ⟨q, hq⟩ : ∃ q, l.getD i default = q := ⟨_, rfl⟩
      rw [hq] at hft
      simp -implicitDefEqProofs (maxSteps := 1000000) (disch := omega) only [↓xsP, ↓vc_seq, xsQ, xsT, xsR, xsD, ↓reduceIte, reduceCtorEq, eq_self, ne_eq, imp_self, forall_const, Nat.reduceEqDiff, Nat.reduceAdd, Nat.reduceSub, Nat.reduceMul, Nat.reduceLT, Nat.reduceLeDiff, Nat.reduceBEq, Nat.reduceDiv, Nat.reduceMod, Int.reduceToNat, Int.reduceNeg, Int.reduceAdd, Int.reduceSub, Int.reduceMul, Int.reduceEq, Int.reduceNe, Int.reduceLT, Int.reduceLE, Int.reduceGT, Int.reduceGE, h5, h1, h8, h9, h10, hq]
      refine newI_intro fun p7 hp7 => ?_
      simp -implicitDefEqProofs (maxSteps := 1000000) (disch := omega) only [↓xsP, ↓vc_seq, xsQ, xsT, xsR, xsD, ↓reduceIte, reduceCtorEq, eq_self, ne_eq, imp_self, forall_const, Nat.reduceEqDiff, Nat.reduceAdd, Nat.reduceSub, Nat.reduceMul, Nat.reduceLT, Nat.reduceLeDiff, Nat.reduceBEq, Nat.reduceDiv, Nat.reduceMod, Int.reduceToNat, Int.reduceNeg, Int.reduceAdd, Int.reduceSub, Int.reduceMul, Int.reduceEq, Int.reduceNe, Int.reduceLT, Int.reduceLE, Int.reduceGT, Int.reduceGE, h5, h1, h8, h9, h10, hq]
      refine condI_prop (fun hk => ?_) (fun hk => ?_)
      · rw [if_pos (by simpa using hk)] at hft
        simp -implicitDefEqProofs (maxSteps := 1000000) (disch := omega) only [↓xsP, ↓vc_seq, xsQ, xsT, xsR, xsD, ↓reduceIte, reduceCtorEq, eq_self, ne_eq, imp_self, forall_const, Nat.reduceEqDiff, Nat.reduceAdd, Nat.reduceSub, Nat.reduceMul, Nat.reduceLT, Nat.reduceLeDiff, Nat.reduceBEq, Nat.reduceDiv, Nat.reduceMod, Int.reduceToNat, Int.reduceNeg, Int.reduceAdd, Int.reduceSub, Int.reduceMul, Int.reduceEq, Int.reduceNe, Int.reduceLT, Int.reduceLE, Int.reduceGT, Int.reduceGE, h5, h1, h8, h9, h10, hq]
        refine newI_intro fun pb hpb => ?_
        simp -implicitDefEqProofs (maxSteps := 1000000) (disch := omega) only [↓xsP, ↓vc_seq, xsQ, xsT, xsR, xsD, ↓reduceIte, reduceCtorEq, eq_self, ne_eq, imp_self, forall_const, Nat.reduceEqDiff, Nat.reduceAdd, Nat.reduceSub, Nat.reduceMul, Nat.reduceLT, Nat.reduceLeDiff, Nat.reduceBEq, Nat.reduceDiv, Nat.reduceMod, Int.reduceToNat, Int.reduceNeg, Int.reduceAdd, Int.reduceSub, Int.reduceMul, Int.reduceEq, Int.reduceNe, Int.reduceLT, Int.reduceLE, Int.reduceGT, Int.reduceGE, h5, h1, h8, h9, h10, hq]
        refine app_out (p := q) hO (le_new (Mem.le_refl _) hp7) hpb (by omega) fun v' N' M2 hO2 hle2 _ => ?_
        obtain ⟨s5', rfl⟩ := hO2.val
        simp -implicitDefEqProofs (maxSteps := 1000000) (disch := omega) only [↓xsP, ↓vc_seq, xsQ, xsT, xsR, xsD, ↓reduceIte, reduceCtorEq, eq_self, ne_eq, imp_self, forall_const, Nat.reduceEqDiff, Nat.reduceAdd, Nat.reduceSub, Nat.reduceMul, Nat.reduceLT, Nat.reduceLeDiff, Nat.reduceBEq, Nat.reduceDiv, Nat.reduceMod, Int.reduceToNat, Int.reduceNeg, Int.reduceAdd, Int.reduceSub, Int.reduceMul, Int.reduceEq, Int.reduceNe, Int.reduceLT, Int.reduceLE, Int.reduceGT, Int.reduceGE, h5, h1, h8, h9, h10, hq]
        exact ⟨l.length - (i + 1), M2, by omega, hle2, i + 1, by omega, rfl, rfl, by rw [hft]; exact hO2⟩
      · rw [if_neg (by simpa using hk)] at hft
        simp -implicitDefEqProofs (maxSteps := 1000000) (disch := omega) only [↓xsP, ↓vc_seq, xsQ, xsT, xsR, xsD, ↓reduceIte, reduceCtorEq, eq_self, ne_eq, imp_self, forall_const, Nat.reduceEqDiff, Nat.reduceAdd, Nat.reduceSub, Nat.reduceMul, Nat.reduceLT, Nat.reduceLeDiff, Nat.reduceBEq, Nat.reduceDiv, Nat.reduceMod, Int.reduceToNat, Int.reduceNeg, Int.reduceAdd, Int.reduceSub, Int.reduceMul, Int.reduceEq, Int.reduceNe, Int.reduceLT, Int.reduceLE, Int.reduceGT, Int.reduceGE, h5, h1, h8, h9, h10, hq]
        exact ⟨l.length - (i + 1), M', by omega, le_new (Mem.le_refl _) hp7, i + 1, by omega, rfl, rfl, by rw [hft]; exact hO⟩
    · have hi' : i = l.length := by omega
      subst hi'
      rw [List.take_length] at hO
      simp -implicitDefEqProofs (maxSteps := 1000000) (disch := omega) only [↓xsP, ↓vc_seq, xsQ, xsT, xsR, xsD, ↓reduceIte, reduceCtorEq, eq_self, ne_eq, imp_self, forall_const, Nat.reduceEqDiff, Nat.reduceAdd, Nat.reduceSub, Nat.reduceMul, Nat.reduceLT, Nat.reduceLeDiff, Nat.reduceBEq, Nat.reduceDiv, Nat.reduceMod, Int.reduceToNat, Int.reduceNeg, Int.reduceAdd, Int.reduceSub, Int.reduceMul, Int.reduceEq, Int.reduceNe, Int.reduceLT, Int.reduceLE, Int.reduceGT, Int.reduceGE, h5, h1, h8, h9, h10]
      exact fin_out hO (Mem.le_refl _) (Mem.le_refl _) ⟨rfl, rfl⟩

theorem rng_filter (l : List Pr) (lo hi : Int) : rng l lo hi = l.filter fun p => decide (lo ≤ p.key ∧ p.key ≤ hi) := by
  rw [rng, stays]
  refine List.filter_congr fun p _ => ?_
  by_cases h1 : p.key < lo
  · have h2 : ¬ (lo ≤ p.key ∧ p.key ≤ hi) := by omega
    simp [outside, h1, h2]
  · by_cases h3 : p.key > hi
    · have h2 : ¬ (lo ≤ p.key ∧ p.key ≤ hi) := by omega
      simp [outside, h1, h3, h2]
    · have h2 : lo ≤ p.key ∧ p.key ≤ hi := by omega
      simp [outside, h1, h3, h2]
theorem between_spec (l : List Pr) (hl : l.length ≤ 1000001) (lo hi : Int) (M : Mem) :
    XCalls Go.Proofs.Try.prog 48 [.l (.sl (l.map Pr.row)), .l (.int .i64 lo), .l (.int .i64 hi)] M fun r M' => r = .l (.sl ((rng l lo hi).map Pr.row)) ∧ M' = M := by
  rw [rng_filter]
  refine xcalls_intro (rs := [.tmp 6]) Go.Proofs.Try.func48 rfl (by kernel_rfl) rfl rfl (by kernel_rfl) (by simp) ?_
  simp -implicitDefEqProofs (maxSteps := 1000000) (disch := omega) only [↓xsP, ↓vc_seq, xsQ, xsT, xsR, xsD, ↓reduceIte, reduceCtorEq, eq_self, ne_eq, imp_self, forall_const, Nat.reduceEqDiff, Nat.reduceAdd, Nat.reduceSub, Nat.reduceMul, Nat.reduceLT, Nat.reduceLeDiff, Nat.reduceBEq, Nat.reduceDiv, Nat.reduceMod, Int.reduceToNat, Int.reduceNeg, Int.reduceAdd, Int.reduceSub, Int.reduceMul, Int.reduceEq, Int.reduceNe, Int.reduceLT, Int.reduceLE, Int.reduceGT, Int.reduceGE]
  refine loopI_of (xloop (by kernel_rfl) (fun k fr M' => ∃ i : Nat, i ≤ l.length ∧ k = l.length - i ∧ fr 1 = .l (.int .i64 lo) ∧ fr 2 = .l (.int .i64 hi) ∧ fr 10 = .l (.sl (l.map Pr.row)) ∧ fr 11 = .l (.int .i64 l.length) ∧ fr 12 = .l (.int .i64 i) ∧ OutP M (fr 7) M' ((l.take i).filter fun p => decide (lo ≤ p.key ∧ p.key ≤ hi))) l.length ?_ ?_)
  · refine ⟨0, Nat.zero_le _, rfl, by simp -implicitDefEqProofs (maxSteps := 1000000) (disch := omega) only [↓xsP, ↓vc_seq, xsQ, xsT, xsR, xsD, ↓reduceIte, reduceCtorEq, eq_self, ne_eq, imp_self, forall_const, Nat.reduceEqDiff, Nat.reduceAdd, Nat.reduceSub, Nat.reduceMul, Nat.reduceLT, Nat.reduceLeDiff, Nat.reduceBEq, Nat.reduceDiv, Nat.reduceMod, Int.reduceToNat, Int.reduceNeg, Int.reduceAdd, Int.reduceSub, Int.reduceMul, Int.reduceEq, Int.reduceNe, Int.reduceLT, Int.reduceLE, Int.reduceGT, Int.reduceGE], by simp -implicitDefEqProofs (maxSteps := 1000000) (disch := omega) only [↓xsP, ↓vc_seq, xsQ, xsT, xsR, xsD, ↓reduceIte, reduceCtorEq, eq_self, ne_eq, imp_self, forall_const, Nat.reduceEqDiff, Nat.reduceAdd, Nat.reduceSub, Nat.reduceMul, Nat.reduceLT, Nat.reduceLeDiff, Nat.reduceBEq, Nat.reduceDiv, Nat.reduceMod, Int.reduceToNat, Int.reduceNeg, Int.reduceAdd, Int.reduceSub, Int.reduceMul, Int.reduceEq, Int.reduceNe, Int.reduceLT, Int.reduceLE, Int.reduceGT, Int.reduceGE], by simp -implicitDefEqProofs (maxSteps := 1000000) (disch := omega) only [↓xsP, ↓vc_seq, xsQ, xsT, xsR, xsD, ↓reduceIte, reduceCtorEq, eq_self, ne_eq, imp_self, forall_const, Nat.reduceEqDiff, Nat.reduceAdd, Nat.reduceSub, Nat.reduceMul, Nat.reduceLT, Nat.reduceLeDiff, Nat.reduceBEq, Nat.reduceDiv, Nat.reduceMod, Int.reduceToNat, Int.reduceNeg, Int.reduceAdd, Int.reduceSub, Int.reduceMul, Int.reduceEq, Int.reduceNe, Int.reduceLT, Int.reduceLE, Int.reduceGT, Int.reduceGE], by simp -implicitDefEqProofs (maxSteps := 1000000) (disch := omega) only [↓xsP, ↓vc_seq, xsQ, xsT, xsR, xsD, ↓reduceIte, reduceCtorEq, eq_self, ne_eq, imp_self, forall_const, Nat.reduceEqDiff, Nat.reduceAdd, Nat.reduceSub, Nat.reduceMul, Nat.reduceLT, Nat.reduceLeDiff, Nat.reduceBEq, Nat.reduceDiv, Nat.reduceMod, Int.reduceToNat, Int.reduceNeg, Int.reduceAdd, Int.reduceSub, Int.reduceMul, Int.reduceEq, Int.reduceNe, Int.reduceLT, Int.reduceLE, Int.reduceGT, Int.reduceGE], by simp -implicitDefEqProofs (maxSteps := 1000000) (disch := omega) only [↓xsP, ↓vc_seq, xsQ, xsT, xsR, xsD, ↓reduceIte, reduceCtorEq, eq_self, ne_eq, imp_self, forall_const, Nat.reduceEqDiff, Nat.reduceAdd, Nat.reduceSub, Nat.reduceMul, Nat.reduceLT, Nat.reduceLeDiff, Nat.reduceBEq, Nat.reduceDiv, Nat.reduceMod, Int.reduceToNat, Int.reduceNeg, Int.reduceAdd, Int.reduceSub, Int.reduceMul, Int.reduceEq, Int.reduceNe, Int.reduceLT, Int.reduceLE, Int.reduceGT, Int.reduceGE, Int.cast_ofNat_Int], ?_⟩
    simp -implicitDefEqProofs (maxSteps := 1000000) (disch := omega) only [↓xsP, ↓vc_seq, xsQ, xsT, xsR, xsD, ↓reduceIte, reduceCtorEq, eq_self, ne_eq, imp_self, forall_const, Nat.reduceEqDiff, Nat.reduceAdd, Nat.reduceSub, Nat.reduceMul, Nat.reduceLT, Nat.reduceLeDiff, Nat.reduceBEq, Nat.reduceDiv, Nat.reduceMod, Int.reduceToNat, Int.reduceNeg, Int.reduceAdd, Int.reduceSub, Int.reduceMul, Int.reduceEq, Int.reduceNe, Int.reduceLT, Int.reduceLE, Int.reduceGT, Int.reduceGE]
    exact OutP.nil M
  · rintro k fr M' ⟨i, hi2, rfl, h1, h2, h8, h9, h10, hO⟩
    obtain ⟨s7, h7⟩ := hO.val
    rw [h7] at hO
    simp -implicitDefEqProofs (maxSteps := 1000000) (disch := omega) only [↓xsP, ↓vc_seq, xsQ, xsT, xsR, xsD, ↓reduceIte, reduceCtorEq, eq_self, ne_eq, imp_self, forall_const, Nat.reduceEqDiff, Nat.reduceAdd, Nat.reduceSub, Nat.reduceMul, Nat.reduceLT, Nat.reduceLeDiff, Nat.reduceBEq, Nat.reduceDiv, Nat.reduceMod, Int.reduceToNat, Int.reduceNeg, Int.reduceAdd, Int.reduceSub, Int.reduceMul, Int.reduceEq, Int.reduceNe, Int.reduceLT, Int.reduceLE, Int.reduceGT, Int.reduceGE, h7, h1, h2, h8, h9, h10]
    refine condI_prop (fun hlt => ?_) (fun hlt => ?_)
    · have hi' : i < l.length := by omega
      have hft := filter_take (q := fun p => decide (lo ≤ p.key ∧ p.key ≤ hi)) hi'
      have hfl := filter_take_len (fun p => decide (lo ≤ p.key ∧ p.key ≤ hi)) l i
      obtain ⟨q, hq⟩ : ∃ q, l.getD i default = q := ⟨_, rfl⟩
      rw [hq] at hft
      simp -implicitDefEqProofs (maxSteps := 1000000) (disch := omega) only [↓xsP, ↓vc_seq, xsQ, xsT, xsR, xsD, ↓reduceIte, reduceCtorEq, eq_self, ne_eq, imp_self, forall_const, Nat.reduceEqDiff, Nat.reduceAdd, Nat.reduceSub, Nat.reduceMul, Nat.reduceLT, Nat.reduceLeDiff, Nat.reduceBEq, Nat.reduceDiv, Nat.reduceMod, Int.reduceToNat, Int.reduceNeg, Int.reduceAdd, Int.reduceSub, Int.reduceMul, Int.reduceEq, Int.reduceNe, Int.reduceLT, Int.reduceLE, Int.reduceGT, Int.reduceGE, h7, h1, h2, h8, h9, h10, hq]
      refine newI_intro fun p9 hp9 => ?_
      simp -implicitDefEqProofs (maxSteps := 1000000) (disch := omega) only [↓xsP, ↓vc_seq, xsQ, xsT, xsR, xsD, ↓reduceIte, reduceCtorEq, eq_self, ne_eq, imp_self, forall_const, Nat.reduceEqDiff, Nat.reduceAdd, Nat.reduceSub, Nat.reduceMul, Nat.reduceLT, Nat.reduceLeDiff, Nat.reduceBEq, Nat.reduceDiv, Nat.reduceMod, Int.reduceToNat, Int.reduceNeg, Int.reduceAdd, Int.reduceSub, Int.reduceMul, Int.reduceEq, Int.reduceNe, Int.reduceLT, Int.reduceLE, Int.reduceGT, Int.reduceGE, h7, h1, h2, h8, h9, h10, hq]
      have hno : ¬ (lo ≤ q.key ∧ q.key ≤ hi) → OutP M (.l s7) M' ((l.take (i + 1)).filter fun p => decide (lo ≤ p.key ∧ p.key ≤ hi)) := fun hn => by
        rw [hft, if_neg (by simpa using hn)]
        exact hO
      refine gI_prop (fun hk => ?_) (fun hk => ?_)
      · simp -implicitDefEqProofs (maxSteps := 1000000) (disch := omega) only [↓xsP, ↓vc_seq, xsQ, xsT, xsR, xsD, ↓reduceIte, reduceCtorEq, eq_self, ne_eq, imp_self, forall_const, Nat.reduceEqDiff, Nat.reduceAdd, Nat.reduceSub, Nat.reduceMul, Nat.reduceLT, Nat.reduceLeDiff, Nat.reduceBEq, Nat.reduceDiv, Nat.reduceMod, Int.reduceToNat, Int.reduceNeg, Int.reduceAdd, Int.reduceSub, Int.reduceMul, Int.reduceEq, Int.reduceNe, Int.reduceLT, Int.reduceLE, Int.reduceGT, Int.reduceGE, h7, h1, h2, h8, h9, h10, hq, hk]
        refine condI_prop (fun hk2 => ?_) (fun hk2 => ?_)
        · rw [if_pos (by simp; omega)] at hft
          simp -implicitDefEqProofs (maxSteps := 1000000) (disch := omega) only [↓xsP, ↓vc_seq, xsQ, xsT, xsR, xsD, ↓reduceIte, reduceCtorEq, eq_self, ne_eq, imp_self, forall_const, Nat.reduceEqDiff, Nat.reduceAdd, Nat.reduceSub, Nat.reduceMul, Nat.reduceLT, Nat.reduceLeDiff, Nat.reduceBEq, Nat.reduceDiv, Nat.reduceMod, Int.reduceToNat, Int.reduceNeg, Int.reduceAdd, Int.reduceSub, Int.reduceMul, Int.reduceEq, Int.reduceNe, Int.reduceLT, Int.reduceLE, Int.reduceGT, Int.reduceGE, h7, h1, h2, h8, h9, h10, hq]
          refine newI_intro fun pb hpb => ?_
          simp -implicitDefEqProofs (maxSteps := 1000000) (disch := omega) only [↓xsP, ↓vc_seq, xsQ, xsT, xsR, xsD, ↓reduceIte, reduceCtorEq, eq_self, ne_eq, imp_self, forall_const, Nat.reduceEqDiff, Nat.reduceAdd, Nat.reduceSub, Nat.reduceMul, Nat.reduceLT, Nat.reduceLeDiff, Nat.reduceBEq, Nat.reduceDiv, Nat.reduceMod, Int.reduceToNat, Int.reduceNeg, Int.reduceAdd, Int.reduceSub, Int.reduceMul, Int.reduceEq, Int.reduceNe, Int.reduceLT, Int.reduceLE, Int.reduceGT, Int.reduceGE, h7, h1, h2, h8, h9, h10, hq]
          refine app_out (p := q) hO (le_new (Mem.le_refl _) hp9) hpb (by omega) fun v' N' M2 hO2 hle2 _ => ?_
          obtain ⟨s5', rfl⟩ := hO2.val
          simp -implicitDefEqProofs (maxSteps := 1000000) (disch := omega) only [↓xsP, ↓vc_seq, xsQ, xsT, xsR, xsD, ↓reduceIte, reduceCtorEq, eq_self, ne_eq, imp_self, forall_const, Nat.reduceEqDiff, Nat.reduceAdd, Nat.reduceSub, Nat.reduceMul, Nat.reduceLT, Nat.reduceLeDiff, Nat.reduceBEq, Nat.reduceDiv, Nat.reduceMod, Int.reduceToNat, Int.reduceNeg, Int.reduceAdd, Int.reduceSub, Int.reduceMul, Int.reduceEq, Int.reduceNe, Int.reduceLT, Int.reduceLE, Int.reduceGT, Int.reduceGE, h7, h1, h2, h8, h9, h10, hq]
          exact ⟨l.length - (i + 1), M2, by omega, hle2, i + 1, by omega, rfl, rfl, by rw [hft]; exact hO2⟩
        · simp -implicitDefEqProofs (maxSteps := 1000000) (disch := omega) only [↓xsP, ↓vc_seq, xsQ, xsT, xsR, xsD, ↓reduceIte, reduceCtorEq, eq_self, ne_eq, imp_self, forall_const, Nat.reduceEqDiff, Nat.reduceAdd, Nat.reduceSub, Nat.reduceMul, Nat.reduceLT, Nat.reduceLeDiff, Nat.reduceBEq, Nat.reduceDiv, Nat.reduceMod, Int.reduceToNat, Int.reduceNeg, Int.reduceAdd, Int.reduceSub, Int.reduceMul, Int.reduceEq, Int.reduceNe, Int.reduceLT, Int.reduceLE, Int.reduceGT, Int.reduceGE, h7, h1, h2, h8, h9, h10, hq]
          exact ⟨l.length - (i + 1), M', by omega, le_new (Mem.le_refl _) hp9, i + 1, by omega, rfl, rfl, hno (by omega)⟩
      · simp -implicitDefEqProofs (maxSteps := 1000000) (disch := omega) only [↓xsP, ↓vc_seq, xsQ, xsT, xsR, xsD, ↓reduceIte, reduceCtorEq, eq_self, ne_eq, imp_self, forall_const, Nat.reduceEqDiff, Nat.reduceAdd, Nat.reduceSub, Nat.reduceMul, Nat.reduceLT, Nat.reduceLeDiff, Nat.reduceBEq, Nat.reduceDiv, Nat.reduceMod, Int.reduceToNat, Int.reduceNeg, Int.reduceAdd, Int.reduceSub, Int.reduceMul, Int.reduceEq, Int.reduceNe, Int.reduceLT, Int.reduceLE, Int.reduceGT, Int.reduceGE, h7, h1, h2, h8, h9, h10, hq, hk]
        exact ⟨l.length - (i + 1), M', by omega, le_new (Mem.le_refl _) hp9, i + 1, by omega, rfl, rfl, hno (by omega)⟩
    · have hi' : i = l.length := by omega
      subst hi'
      rw [List.take_length] at hO
      simp -implicitDefEqProofs (maxSteps := 1000000) (disch := omega) only [↓xsP, ↓vc_seq, xsQ, xsT, xsR, xsD, ↓reduceIte, reduceCtorEq, eq_self, ne_eq, imp_self, forall_const, Nat.reduceEqDiff, Nat.reduceAdd, Nat.reduceSub, Nat.reduceMul, Nat.reduceLT, Nat.reduceLeDiff, Nat.reduceBEq, Nat.reduceDiv, Nat.reduceMod, Int.reduceToNat, Int.reduceNeg, Int.reduceAdd, Int.reduceSub, Int.reduceMul, Int.reduceEq, Int.reduceNe, Int.reduceLT, Int.reduceLE, Int.reduceGT, Int.reduceGE, h7, h1, h2, h8, h9, h10]
      exact fin_out hO (Mem.le_refl _) (Mem.le_refl _) ⟨rfl, rfl⟩

theorem findR_spec (l : List Pr) (hl : l.length ≤ 140737488355328) (key : Int) (M : Mem) :
    XCalls Go.Proofs.Try.prog 46 [.l (.sl (l.map Pr.row)), .l (.int .i64 key)] M fun r M' => r = .l (.int .i64 (place l key)) ∧ M' = M := by
  refine xcalls_intro (rs := [.tmp 4]) Go.Proofs.Try.func46 rfl (by kernel_rfl) rfl rfl (by kernel_rfl) (by simp) ?_
  have hstep : ∀ i, i < l.length → l.drop i = l.getD i default :: l.drop (i + 1) := fun i hi => drop_cons hi
  simp -implicitDefEqProofs (maxSteps := 1000000) (disch := omega) only [↓xsP, ↓vc_seq, xsQ, xsT, xsR, xsD, ↓reduceIte, reduceCtorEq, eq_self, ne_eq, imp_self, forall_const, Nat.reduceEqDiff, Nat.reduceAdd, Nat.reduceSub, Nat.reduceMul, Nat.reduceLT, Nat.reduceLeDiff, Nat.reduceBEq, Nat.reduceDiv, Nat.reduceMod, Int.reduceToNat, Int.reduceNeg, Int.reduceAdd, Int.reduceSub, Int.reduceMul, Int.reduceEq, Int.reduceNe, Int.reduceLT, Int.reduceLE, Int.reduceGT, Int.reduceGE]
  refine loopI_of (xloop (by kernel_rfl) (fun k fr M' => ∃ i : Nat, i ≤ l.length ∧ k = l.length - i ∧ fr 1 = .l (.int .i64 key) ∧ fr 7 = .l (.sl (l.map Pr.row)) ∧ fr 8 = .l (.int .i64 l.length) ∧ fr 9 = .l (.int .i64 i) ∧ M' = M ∧ place l key = pidx (fun p => decide (p.key = key)) (l.drop i) i) l.length ?_ ?_)
  · exact ⟨0, Nat.zero_le _, rfl, by simp -implicitDefEqProofs (maxSteps := 1000000) (disch := omega) only [↓xsP, ↓vc_seq, xsQ, xsT, xsR, xsD, ↓reduceIte, reduceCtorEq, eq_self, ne_eq, imp_self, forall_const, Nat.reduceEqDiff, Nat.reduceAdd, Nat.reduceSub, Nat.reduceMul, Nat.reduceLT, Nat.reduceLeDiff, Nat.reduceBEq, Nat.reduceDiv, Nat.reduceMod, Int.reduceToNat, Int.reduceNeg, Int.reduceAdd, Int.reduceSub, Int.reduceMul, Int.reduceEq, Int.reduceNe, Int.reduceLT, Int.reduceLE, Int.reduceGT, Int.reduceGE], by simp -implicitDefEqProofs (maxSteps := 1000000) (disch := omega) only [↓xsP, ↓vc_seq, xsQ, xsT, xsR, xsD, ↓reduceIte, reduceCtorEq, eq_self, ne_eq, imp_self, forall_const, Nat.reduceEqDiff, Nat.reduceAdd, Nat.reduceSub, Nat.reduceMul, Nat.reduceLT, Nat.reduceLeDiff, Nat.reduceBEq, Nat.reduceDiv, Nat.reduceMod, Int.reduceToNat, Int.reduceNeg, Int.reduceAdd, Int.reduceSub, Int.reduceMul, Int.reduceEq, Int.reduceNe, Int.reduceLT, Int.reduceLE, Int.reduceGT, Int.reduceGE], by simp -implicitDefEqProofs (maxSteps := 1000000) (disch := omega) only [↓xsP, ↓vc_seq, xsQ, xsT, xsR, xsD, ↓reduceIte, reduceCtorEq, eq_self, ne_eq, imp_self, forall_const, Nat.reduceEqDiff, Nat.reduceAdd, Nat.reduceSub, Nat.reduceMul, Nat.reduceLT, Nat.reduceLeDiff, Nat.reduceBEq, Nat.reduceDiv, Nat.reduceMod, Int.reduceToNat, Int.reduceNeg, Int.reduceAdd, Int.reduceSub, Int.reduceMul, Int.reduceEq, Int.reduceNe, Int.reduceLT, Int.reduceLE, Int.reduceGT, Int.reduceGE], by simp -implicitDefEqProofs (maxSteps := 1000000) (disch := omega) only [↓xsP, ↓vc_seq, xsQ, xsT, xsR, xsD, ↓reduceIte, reduceCtorEq, eq_self, ne_eq, imp_self, forall_const, Nat.reduceEqDiff, Nat.reduceAdd, Nat.reduceSub, Nat.reduceMul, Nat.reduceLT, Nat.reduceLeDiff, Nat.reduceBEq, Nat.reduceDiv, Nat.reduceMod, Int.reduceToNat, Int.reduceNeg, Int.reduceAdd, Int.reduceSub, Int.reduceMul, Int.reduceEq, Int.reduceNe, Int.reduceLT, Int.reduceLE, Int.reduceGT, Int.reduceGE, Int.cast_ofNat_Int], rfl, rfl⟩
  · rintro k fr M' ⟨i, hi, rfl, h1, h7, h8, h9, rfl, hinv⟩
    simp -implicitDefEqProofs (maxSteps := 1000000) (disch := omega) only [↓xsP, ↓vc_seq, xsQ, xsT, xsR, xsD, ↓reduceIte, reduceCtorEq, eq_self, ne_eq, imp_self, forall_const, Nat.reduceEqDiff, Nat.reduceAdd, Nat.reduceSub, Nat.reduceMul, Nat.reduceLT, Nat.reduceLeDiff, Nat.reduceBEq, Nat.reduceDiv, Nat.reduceMod, Int.reduceToNat, Int.reduceNeg, Int.reduceAdd, Int.reduceSub, Int.reduceMul, Int.reduceEq, Int.reduceNe, Int.reduceLT, Int.reduceLE, Int.reduceGT, Int.reduceGE, h1, h7, h8, h9]
    refine condI_prop (fun hlt => ?_) (fun hlt => ?_)
    · rw [hstep i (by omega), pidx] at hinv
      obtain ⟨q, hq⟩ : ∃ q, l.getD i default = q := ⟨_, rfl⟩
      rw [hq] at hinv
      simp -implicitDefEqProofs (maxSteps := 1000000) (disch := omega) only [↓xsP, ↓vc_seq, xsQ, xsT, xsR, xsD, ↓reduceIte, reduceCtorEq, eq_self, ne_eq, imp_self, forall_const, Nat.reduceEqDiff, Nat.reduceAdd, Nat.reduceSub, Nat.reduceMul, Nat.reduceLT, Nat.reduceLeDiff, Nat.reduceBEq, Nat.reduceDiv, Nat.reduceMod, Int.reduceToNat, Int.reduceNeg, Int.reduceAdd, Int.reduceSub, Int.reduceMul, Int.reduceEq, Int.reduceNe, Int.reduceLT, Int.reduceLE, Int.reduceGT, Int.reduceGE, h1, h7, h8, h9, hq]
      refine newI_intro fun p6 hp6 => ?_
      simp -implicitDefEqProofs (maxSteps := 1000000) (disch := omega) only [↓xsP, ↓vc_seq, xsQ, xsT, xsR, xsD, ↓reduceIte, reduceCtorEq, eq_self, ne_eq, imp_self, forall_const, Nat.reduceEqDiff, Nat.reduceAdd, Nat.reduceSub, Nat.reduceMul, Nat.reduceLT, Nat.reduceLeDiff, Nat.reduceBEq, Nat.reduceDiv, Nat.reduceMod, Int.reduceToNat, Int.reduceNeg, Int.reduceAdd, Int.reduceSub, Int.reduceMul, Int.reduceEq, Int.reduceNe, Int.reduceLT, Int.reduceLE, Int.reduceGT, Int.reduceGE, h1, h7, h8, h9, hq]
      refine condI_prop (fun hk => ?_) (fun hk => ?_)
      · rw [if_pos (by simpa using hk)] at hinv
        simp -implicitDefEqProofs (maxSteps := 1000000) (disch := omega) only [↓xsP, ↓vc_seq, xsQ, xsT, xsR, xsD, ↓reduceIte, reduceCtorEq, eq_self, ne_eq, imp_self, forall_const, Nat.reduceEqDiff, Nat.reduceAdd, Nat.reduceSub, Nat.reduceMul, Nat.reduceLT, Nat.reduceLeDiff, Nat.reduceBEq, Nat.reduceDiv, Nat.reduceMod, Int.reduceToNat, Int.reduceNeg, Int.reduceAdd, Int.reduceSub, Int.reduceMul, Int.reduceEq, Int.reduceNe, Int.reduceLT, Int.reduceLE, Int.reduceGT, Int.reduceGE, h1, h7, h8, h9, hq]
        exact fin_ok (le_new (Mem.le_refl _) hp6) ⟨by rw [hinv], rfl⟩
      · rw [if_neg (by simpa using hk)] at hinv
        simp -implicitDefEqProofs (maxSteps := 1000000) (disch := omega) only [↓xsP, ↓vc_seq, xsQ, xsT, xsR, xsD, ↓reduceIte, reduceCtorEq, eq_self, ne_eq, imp_self, forall_const, Nat.reduceEqDiff, Nat.reduceAdd, Nat.reduceSub, Nat.reduceMul, Nat.reduceLT, Nat.reduceLeDiff, Nat.reduceBEq, Nat.reduceDiv, Nat.reduceMod, Int.reduceToNat, Int.reduceNeg, Int.reduceAdd, Int.reduceSub, Int.reduceMul, Int.reduceEq, Int.reduceNe, Int.reduceLT, Int.reduceLE, Int.reduceGT, Int.reduceGE, h1, h7, h8, h9, hq]
        exact ⟨l.length - (i + 1), M', by omega, le_new (Mem.le_refl _) hp6, i + 1, by omega, rfl, rfl, rfl, hinv⟩
    · have hil : i = l.length := by omega
      subst hil
      rw [List.drop_length, pidx] at hinv
      simp -implicitDefEqProofs (maxSteps := 1000000) (disch := omega) only [↓xsP, ↓vc_seq, xsQ, xsT, xsR, xsD, ↓reduceIte, reduceCtorEq, eq_self, ne_eq, imp_self, forall_const, Nat.reduceEqDiff, Nat.reduceAdd, Nat.reduceSub, Nat.reduceMul, Nat.reduceLT, Nat.reduceLeDiff, Nat.reduceBEq, Nat.reduceDiv, Nat.reduceMod, Int.reduceToNat, Int.reduceNeg, Int.reduceAdd, Int.reduceSub, Int.reduceMul, Int.reduceEq, Int.reduceNe, Int.reduceLT, Int.reduceLE, Int.reduceGT, Int.reduceGE, h1, h7, h8, h9]
      exact fin_ok (Mem.le_refl _) ⟨by rw [hinv], rfl⟩

/-- With, step by step. -/
def wst (p : Pr) (s : List Pr × Bool) (x : Pr) : List Pr × Bool :=
  let s1 := if s.2 = false ∧ x.key ≥ p.key then (s.1 ++ [p], true) else s
  (if x.key ≠ p.key then s1.1 ++ [x] else s1.1, s1.2)
def wrun (p : Pr) (l : List Pr) : List Pr × Bool := l.foldl (wst p) ([], false)
def withR (l : List Pr) (p : Pr) : List Pr := if (wrun p l).2 then (wrun p l).1 else (wrun p l).1 ++ [p]
theorem wrun_take {p : Pr} {l : List Pr} {i : Nat} (hi : i < l.length) : wrun p (l.take (i + 1)) = wst p (wrun p (l.take i)) (l.getD i default) := by
  rw [take_snoc l hi, wrun, List.foldl_append]
  rfl
theorem wst_len (p : Pr) (s : List Pr × Bool) (x : Pr) : (wst p s x).1.length + (!(wst p s x).2).toNat ≤ s.1.length + (!s.2).toNat + 1 := by
  obtain ⟨o, d⟩ := s
  cases d <;> simp only [wst] <;> (repeat' split) <;> simp_all
theorem wrun_len (p : Pr) (l : List Pr) : (wrun p l).1.length + (!(wrun p l).2).toNat ≤ l.length + 1 := by
  have key : ∀ (l : List Pr) (s : List Pr × Bool), (l.foldl (wst p) s).1.length + (!(l.foldl (wst p) s).2).toNat ≤ s.1.length + (!s.2).toNat + l.length := by
    intro l
    induction l with
    | nil => intro s; simp
    | cons x r ih =>
      intro s
      have h1 := ih (wst p s x)
      have h2 := wst_len p s x
      simp only [List.foldl_cons, List.length_cons]
      omega
  have := key l ([], false)
  simp only [List.length_nil, Bool.not_false, Bool.toNat_true] at this
  rw [wrun]
  omega
theorem withR_spec (l : List Pr) (hl : l.length ≤ 1000000) (p : Pr) (M : Mem) :
    XCalls Go.Proofs.Try.prog 20 [.l (.sl (l.map Pr.row)), .agg p.row] M fun r M' => r = .l (.sl ((withR l p).map Pr.row)) ∧ M' = M := by
  refine xcalls_intro (rs := [.tmp 4]) Go.Proofs.Try.func20 rfl (by kernel_rfl) rfl rfl (by kernel_rfl) (by simp) ?_
  simp -implicitDefEqProofs (maxSteps := 1000000) (disch := omega) only [↓xsP, ↓vc_seq, xsQ, xsT, xsR, xsD, ↓reduceIte, reduceCtorEq, eq_self, ne_eq, imp_self, forall_const, Nat.reduceEqDiff, Nat.reduceAdd, Nat.reduceSub, Nat.reduceMul, Nat.reduceLT, Nat.reduceLeDiff, Nat.reduceBEq, Nat.reduceDiv, Nat.reduceMod, Int.reduceToNat, Int.reduceNeg, Int.reduceAdd, Int.reduceSub, Int.reduceMul, Int.reduceEq, Int.reduceNe, Int.reduceLT, Int.reduceLE, Int.reduceGT, Int.reduceGE]
  refine newI_intro fun p3 hp3 => ?_
  have hM3 := Mem.set_eq M p3 (.cells 26 [p.row] 0)
  have hMN := le_new (b := .cells 26 [p.row] 0) (Mem.le_refl M) hp3
  simp only [Pr.row] at hM3 hMN
  simp -implicitDefEqProofs (maxSteps := 1000000) (disch := omega) only [↓xsP, ↓vc_seq, xsQ, xsT, xsR, xsD, ↓reduceIte, reduceCtorEq, eq_self, ne_eq, imp_self, forall_const, Nat.reduceEqDiff, Nat.reduceAdd, Nat.reduceSub, Nat.reduceMul, Nat.reduceLT, Nat.reduceLeDiff, Nat.reduceBEq, Nat.reduceDiv, Nat.reduceMod, Int.reduceToNat, Int.reduceNeg, Int.reduceAdd, Int.reduceSub, Int.reduceMul, Int.reduceEq, Int.reduceNe, Int.reduceLT, Int.reduceLE, Int.reduceGT, Int.reduceGE]
  generalize M.set p3 _ = N at hM3 hMN ⊢
  refine loopI_of (xloop (by kernel_rfl) (fun k fr M' => ∃ i : Nat, i ≤ l.length ∧ k = l.length - i ∧ fr 3 = .l (.ptr p3 0 0) ∧ fr 6 = .l (.bool (wrun p (l.take i)).2) ∧ fr 9 = .l (.sl (l.map Pr.row)) ∧ fr 10 = .l (.int .i64 l.length) ∧ fr 11 = .l (.int .i64 i) ∧ OutP N (fr 5) M' (wrun p (l.take i)).1) l.length ?_ ?_)
  · refine ⟨0, Nat.zero_le _, rfl, by simp -implicitDefEqProofs (maxSteps := 1000000) (disch := omega) only [↓xsP, ↓vc_seq, xsQ, xsT, xsR, xsD, ↓reduceIte, reduceCtorEq, eq_self, ne_eq, imp_self, forall_const, Nat.reduceEqDiff, Nat.reduceAdd, Nat.reduceSub, Nat.reduceMul, Nat.reduceLT, Nat.reduceLeDiff, Nat.reduceBEq, Nat.reduceDiv, Nat.reduceMod, Int.reduceToNat, Int.reduceNeg, Int.reduceAdd, Int.reduceSub, Int.reduceMul, Int.reduceEq, Int.reduceNe, Int.reduceLT, Int.reduceLE, Int.reduceGT, Int.reduceGE], by simp -implicitDefEqProofs (maxSteps := 1000000) (disch := omega) only [↓xsP, ↓vc_seq, xsQ, xsT, xsR, xsD, ↓reduceIte, reduceCtorEq, eq_self, ne_eq, imp_self, forall_const, Nat.reduceEqDiff, Nat.reduceAdd, Nat.reduceSub, Nat.reduceMul, Nat.reduceLT, Nat.reduceLeDiff, Nat.reduceBEq, Nat.reduceDiv, Nat.reduceMod, Int.reduceToNat, Int.reduceNeg, Int.reduceAdd, Int.reduceSub, Int.reduceMul, Int.reduceEq, Int.reduceNe, Int.reduceLT, Int.reduceLE, Int.reduceGT, Int.reduceGE]; rfl, by simp -implicitDefEqProofs (maxSteps := 1000000) (disch := omega) only [↓xsP, ↓vc_seq, xsQ, xsT, xsR, xsD, ↓reduceIte, reduceCtorEq, eq_self, ne_eq, imp_self, forall_const, Nat.reduceEqDiff, Nat.reduceAdd, Nat.reduceSub, Nat.reduceMul, Nat.reduceLT, Nat.reduceLeDiff, Nat.reduceBEq, Nat.reduceDiv, Nat.reduceMod, Int.reduceToNat, Int.reduceNeg, Int.reduceAdd, Int.reduceSub, Int.reduceMul, Int.reduceEq, Int.reduceNe, Int.reduceLT, Int.reduceLE, Int.reduceGT, Int.reduceGE], by simp -implicitDefEqProofs (maxSteps := 1000000) (disch := omega) only [↓xsP, ↓vc_seq, xsQ, xsT, xsR, xsD, ↓reduceIte, reduceCtorEq, eq_self, ne_eq, imp_self, forall_const, Nat.reduceEqDiff, Nat.reduceAdd, Nat.reduceSub, Nat.reduceMul, Nat.reduceLT, Nat.reduceLeDiff, Nat.reduceBEq, Nat.reduceDiv, Nat.reduceMod, Int.reduceToNat, Int.reduceNeg, Int.reduceAdd, Int.reduceSub, Int.reduceMul, Int.reduceEq, Int.reduceNe, Int.reduceLT, Int.reduceLE, Int.reduceGT, Int.reduceGE], by simp -implicitDefEqProofs (maxSteps := 1000000) (disch := omega) only [↓xsP, ↓vc_seq, xsQ, xsT, xsR, xsD, ↓reduceIte, reduceCtorEq, eq_self, ne_eq, imp_self, forall_const, Nat.reduceEqDiff, Nat.reduceAdd, Nat.reduceSub, Nat.reduceMul, Nat.reduceLT, Nat.reduceLeDiff, Nat.reduceBEq, Nat.reduceDiv, Nat.reduceMod, Int.reduceToNat, Int.reduceNeg, Int.reduceAdd, Int.reduceSub, Int.reduceMul, Int.reduceEq, Int.reduceNe, Int.reduceLT, Int.reduceLE, Int.reduceGT, Int.reduceGE, Int.cast_ofNat_Int], ?_⟩
    simp -implicitDefEqProofs (maxSteps := 1000000) (disch := omega) only [↓xsP, ↓vc_seq, xsQ, xsT, xsR, xsD, ↓reduceIte, reduceCtorEq, eq_self, ne_eq, imp_self, forall_const, Nat.reduceEqDiff, Nat.reduceAdd, Nat.reduceSub, Nat.reduceMul, Nat.reduceLT, Nat.reduceLeDiff, Nat.reduceBEq, Nat.reduceDiv, Nat.reduceMod, Int.reduceToNat, Int.reduceNeg, Int.reduceAdd, Int.reduceSub, Int.reduceMul, Int.reduceEq, Int.reduceNe, Int.reduceLT, Int.reduceLE, Int.reduceGT, Int.reduceGE]
    exact OutP.nil N
  · rintro k fr M' ⟨i, hi, rfl, h3, h6, h9, h10, h11, hO⟩
    obtain ⟨s5, h5⟩ := hO.val
    rw [h5] at hO
    have hM3' := hO.base _ _ hM3
    simp -implicitDefEqProofs (maxSteps := 1000000) (disch := omega) only [↓xsP, ↓vc_seq, xsQ, xsT, xsR, xsD, ↓reduceIte, reduceCtorEq, eq_self, ne_eq, imp_self, forall_const, Nat.reduceEqDiff, Nat.reduceAdd, Nat.reduceSub, Nat.reduceMul, Nat.reduceLT, Nat.reduceLeDiff, Nat.reduceBEq, Nat.reduceDiv, Nat.reduceMod, Int.reduceToNat, Int.reduceNeg, Int.reduceAdd, Int.reduceSub, Int.reduceMul, Int.reduceEq, Int.reduceNe, Int.reduceLT, Int.reduceLE, Int.reduceGT, Int.reduceGE, h5, h3, h6, h9, h10, h11]
    refine condI_prop (fun hlt => ?_) (fun hlt => ?_)
    · have hi' : i < l.length := by omega
      have hwt := wrun_take (p := p) hi'
      have hwl := wrun_len p (l.take i)
      rw [List.length_take] at hwl
      obtain ⟨q, hq⟩ : ∃ q, l.getD i default = q := ⟨_, rfl⟩
      rw [hq] at hwt
      generalize wrun p (l.take i) = s at hwt hwl hO h6
      obtain ⟨o, d⟩ := s
      simp only at hwl hO h6
      simp -implicitDefEqProofs (maxSteps := 1000000) (disch := omega) only [↓xsP, ↓vc_seq, xsQ, xsT, xsR, xsD, ↓reduceIte, reduceCtorEq, eq_self, ne_eq, imp_self, forall_const, Nat.reduceEqDiff, Nat.reduceAdd, Nat.reduceSub, Nat.reduceMul, Nat.reduceLT, Nat.reduceLeDiff, Nat.reduceBEq, Nat.reduceDiv, Nat.reduceMod, Int.reduceToNat, Int.reduceNeg, Int.reduceAdd, Int.reduceSub, Int.reduceMul, Int.reduceEq, Int.reduceNe, Int.reduceLT, Int.reduceLE, Int.reduceGT, Int.reduceGE, h5, h3, h6, h9, h10, h11, hq]
      refine newI_intro fun p8 hp8 => ?_
      have h38 := lt_of_bnd hp8 hM3'
      simp -implicitDefEqProofs (maxSteps := 1000000) (disch := omega) only [↓xsP, ↓vc_seq, xsQ, xsT, xsR, xsD, ↓reduceIte, reduceCtorEq, eq_self, ne_eq, imp_self, forall_const, Nat.reduceEqDiff, Nat.reduceAdd, Nat.reduceSub, Nat.reduceMul, Nat.reduceLT, Nat.reduceLeDiff, Nat.reduceBEq, Nat.reduceDiv, Nat.reduceMod, Int.reduceToNat, Int.reduceNeg, Int.reduceAdd, Int.reduceSub, Int.reduceMul, Int.reduceEq, Int.reduceNe, Int.reduceLT, Int.reduceLE, Int.reduceGT, Int.reduceGE, h5, h3, h6, h9, h10, h11, hq, hM3']
      have hle8 : ∀ b, M'.le (M'.set p8 b) := fun b => le_new (Mem.le_refl _) hp8
      have hn8 : M' p8 = none := hp8 _ (Nat.le_refl _)
      -- the second half of a round
      cases d with
      | true =>
        have hw1 : wst p (o, true) q = (if q.key ≠ p.key then o ++ [q] else o, true) := by simp [wst]
        rw [hw1] at hwt
        simp -implicitDefEqProofs (maxSteps := 1000000) (disch := omega) only [↓xsP, ↓vc_seq, xsQ, xsT, xsR, xsD, ↓reduceIte, reduceCtorEq, eq_self, ne_eq, imp_self, forall_const, Nat.reduceEqDiff, Nat.reduceAdd, Nat.reduceSub, Nat.reduceMul, Nat.reduceLT, Nat.reduceLeDiff, Nat.reduceBEq, Nat.reduceDiv, Nat.reduceMod, Int.reduceToNat, Int.reduceNeg, Int.reduceAdd, Int.reduceSub, Int.reduceMul, Int.reduceEq, Int.reduceNe, Int.reduceLT, Int.reduceLE, Int.reduceGT, Int.reduceGE, h5, h3, h6, h9, h10, h11, hq, hM3']
        refine condI_prop (fun hk => ?_) (fun hk => ?_)
        · rw [if_pos hk] at hwt
          simp -implicitDefEqProofs (maxSteps := 1000000) (disch := omega) only [↓xsP, ↓vc_seq, xsQ, xsT, xsR, xsD, ↓reduceIte, reduceCtorEq, eq_self, ne_eq, imp_self, forall_const, Nat.reduceEqDiff, Nat.reduceAdd, Nat.reduceSub, Nat.reduceMul, Nat.reduceLT, Nat.reduceLeDiff, Nat.reduceBEq, Nat.reduceDiv, Nat.reduceMod, Int.reduceToNat, Int.reduceNeg, Int.reduceAdd, Int.reduceSub, Int.reduceMul, Int.reduceEq, Int.reduceNe, Int.reduceLT, Int.reduceLE, Int.reduceGT, Int.reduceGE, h5, h3, h6, h9, h10, h11, hq, hM3']
          refine newI_intro fun pb hpb => ?_
          simp -implicitDefEqProofs (maxSteps := 1000000) (disch := omega) only [↓xsP, ↓vc_seq, xsQ, xsT, xsR, xsD, ↓reduceIte, reduceCtorEq, eq_self, ne_eq, imp_self, forall_const, Nat.reduceEqDiff, Nat.reduceAdd, Nat.reduceSub, Nat.reduceMul, Nat.reduceLT, Nat.reduceLeDiff, Nat.reduceBEq, Nat.reduceDiv, Nat.reduceMod, Int.reduceToNat, Int.reduceNeg, Int.reduceAdd, Int.reduceSub, Int.reduceMul, Int.reduceEq, Int.reduceNe, Int.reduceLT, Int.reduceLE, Int.reduceGT, Int.reduceGE, h5, h3, h6, h9, h10, h11, hq, hM3']
          refine app_out (p := q) hO (hle8 _) hpb (by simp at hwl; omega) fun v' N' M2 hO2 hle2 _ => ?_
          obtain ⟨s5', rfl⟩ := hO2.val
          simp -implicitDefEqProofs (maxSteps := 1000000) (disch := omega) only [↓xsP, ↓vc_seq, xsQ, xsT, xsR, xsD, ↓reduceIte, reduceCtorEq, eq_self, ne_eq, imp_self, forall_const, Nat.reduceEqDiff, Nat.reduceAdd, Nat.reduceSub, Nat.reduceMul, Nat.reduceLT, Nat.reduceLeDiff, Nat.reduceBEq, Nat.reduceDiv, Nat.reduceMod, Int.reduceToNat, Int.reduceNeg, Int.reduceAdd, Int.reduceSub, Int.reduceMul, Int.reduceEq, Int.reduceNe, Int.reduceLT, Int.reduceLE, Int.reduceGT, Int.reduceGE, h5, h3, h6, h9, h10, h11, hq]
          exact ⟨l.length - (i + 1), M2, by omega, hle2, i + 1, by omega, rfl, by rw [hwt], rfl, by rw [hwt]; exact hO2⟩
        · rw [if_neg hk] at hwt
          simp -implicitDefEqProofs (maxSteps := 1000000) (disch := omega) only [↓xsP, ↓vc_seq, xsQ, xsT, xsR, xsD, ↓reduceIte, reduceCtorEq, eq_self, ne_eq, imp_self, forall_const, Nat.reduceEqDiff, Nat.reduceAdd, Nat.reduceSub, Nat.reduceMul, Nat.reduceLT, Nat.reduceLeDiff, Nat.reduceBEq, Nat.reduceDiv, Nat.reduceMod, Int.reduceToNat, Int.reduceNeg, Int.reduceAdd, Int.reduceSub, Int.reduceMul, Int.reduceEq, Int.reduceNe, Int.reduceLT, Int.reduceLE, Int.reduceGT, Int.reduceGE, h5, h3, h6, h9, h10, h11, hq, hM3']
          exact ⟨l.length - (i + 1), M', by omega, hle8 _, i + 1, by omega, rfl, by rw [hwt], rfl, by rw [hwt]; exact hO⟩
      | false =>
        simp -implicitDefEqProofs (maxSteps := 1000000) (disch := omega) only [↓xsP, ↓vc_seq, xsQ, xsT, xsR, xsD, ↓reduceIte, reduceCtorEq, eq_self, ne_eq, imp_self, forall_const, Nat.reduceEqDiff, Nat.reduceAdd, Nat.reduceSub, Nat.reduceMul, Nat.reduceLT, Nat.reduceLeDiff, Nat.reduceBEq, Nat.reduceDiv, Nat.reduceMod, Int.reduceToNat, Int.reduceNeg, Int.reduceAdd, Int.reduceSub, Int.reduceMul, Int.reduceEq, Int.reduceNe, Int.reduceLT, Int.reduceLE, Int.reduceGT, Int.reduceGE, h5, h3, h6, h9, h10, h11, hq, hM3']
        refine condI_prop (fun hge => ?_) (fun hge => ?_)
        · have hw1 : wst p (o, false) q = (if q.key ≠ p.key then o ++ [p] ++ [q] else o ++ [p], true) := by simp [wst, hge]
          rw [hw1] at hwt
          simp -implicitDefEqProofs (maxSteps := 1000000) (disch := omega) only [↓xsP, ↓vc_seq, xsQ, xsT, xsR, xsD, ↓reduceIte, reduceCtorEq, eq_self, ne_eq, imp_self, forall_const, Nat.reduceEqDiff, Nat.reduceAdd, Nat.reduceSub, Nat.reduceMul, Nat.reduceLT, Nat.reduceLeDiff, Nat.reduceBEq, Nat.reduceDiv, Nat.reduceMod, Int.reduceToNat, Int.reduceNeg, Int.reduceAdd, Int.reduceSub, Int.reduceMul, Int.reduceEq, Int.reduceNe, Int.reduceLT, Int.reduceLE, Int.reduceGT, Int.reduceGE, h5, h3, h6, h9, h10, h11, hq, hM3']
          refine newI_intro fun pb hpb => ?_
          simp -implicitDefEqProofs (maxSteps := 1000000) (disch := omega) only [↓xsP, ↓vc_seq, xsQ, xsT, xsR, xsD, ↓reduceIte, reduceCtorEq, eq_self, ne_eq, imp_self, forall_const, Nat.reduceEqDiff, Nat.reduceAdd, Nat.reduceSub, Nat.reduceMul, Nat.reduceLT, Nat.reduceLeDiff, Nat.reduceBEq, Nat.reduceDiv, Nat.reduceMod, Int.reduceToNat, Int.reduceNeg, Int.reduceAdd, Int.reduceSub, Int.reduceMul, Int.reduceEq, Int.reduceNe, Int.reduceLT, Int.reduceLE, Int.reduceGT, Int.reduceGE, h5, h3, h6, h9, h10, h11, hq, hM3']
          refine app_out (p := p) hO (hle8 _) hpb (by simp at hwl; omega) fun v' N' M2 hO2 hle2 hkeep => ?_
          obtain ⟨s5', h5'⟩ := hO2.val
          subst h5'
          have hN8 := hkeep _ _ (Mem.set_eq M' p8 _) hn8
          have hN3 := hle2 _ _ (hO2.base _ _ hM3)
          simp -implicitDefEqProofs (maxSteps := 1000000) (disch := omega) only [↓xsP, ↓vc_seq, xsQ, xsT, xsR, xsD, ↓reduceIte, reduceCtorEq, eq_self, ne_eq, imp_self, forall_const, Nat.reduceEqDiff, Nat.reduceAdd, Nat.reduceSub, Nat.reduceMul, Nat.reduceLT, Nat.reduceLeDiff, Nat.reduceBEq, Nat.reduceDiv, Nat.reduceMod, Int.reduceToNat, Int.reduceNeg, Int.reduceAdd, Int.reduceSub, Int.reduceMul, Int.reduceEq, Int.reduceNe, Int.reduceLT, Int.reduceLE, Int.reduceGT, Int.reduceGE, h5, h3, h6, h9, h10, h11, hq, hN8, hN3]
          refine condI_prop (fun hk => ?_) (fun hk => ?_)
          · rw [if_pos hk] at hwt
            simp -implicitDefEqProofs (maxSteps := 1000000) (disch := omega) only [↓xsP, ↓vc_seq, xsQ, xsT, xsR, xsD, ↓reduceIte, reduceCtorEq, eq_self, ne_eq, imp_self, forall_const, Nat.reduceEqDiff, Nat.reduceAdd, Nat.reduceSub, Nat.reduceMul, Nat.reduceLT, Nat.reduceLeDiff, Nat.reduceBEq, Nat.reduceDiv, Nat.reduceMod, Int.reduceToNat, Int.reduceNeg, Int.reduceAdd, Int.reduceSub, Int.reduceMul, Int.reduceEq, Int.reduceNe, Int.reduceLT, Int.reduceLE, Int.reduceGT, Int.reduceGE, h5, h3, h6, h9, h10, h11, hq, hN8, hN3]
            refine newI_intro fun pb2 hpb2 => ?_
            simp -implicitDefEqProofs (maxSteps := 1000000) (disch := omega) only [↓xsP, ↓vc_seq, xsQ, xsT, xsR, xsD, ↓reduceIte, reduceCtorEq, eq_self, ne_eq, imp_self, forall_const, Nat.reduceEqDiff, Nat.reduceAdd, Nat.reduceSub, Nat.reduceMul, Nat.reduceLT, Nat.reduceLeDiff, Nat.reduceBEq, Nat.reduceDiv, Nat.reduceMod, Int.reduceToNat, Int.reduceNeg, Int.reduceAdd, Int.reduceSub, Int.reduceMul, Int.reduceEq, Int.reduceNe, Int.reduceLT, Int.reduceLE, Int.reduceGT, Int.reduceGE, h5, h3, h6, h9, h10, h11, hq, hN8, hN3]
            refine app_out (p := q) hO2 hle2 hpb2 (by simp at hwl ⊢; omega) fun v2 N2 M3 hO3 hle3 _ => ?_
            obtain ⟨s6', rfl⟩ := hO3.val
            simp -implicitDefEqProofs (maxSteps := 1000000) (disch := omega) only [↓xsP, ↓vc_seq, xsQ, xsT, xsR, xsD, ↓reduceIte, reduceCtorEq, eq_self, ne_eq, imp_self, forall_const, Nat.reduceEqDiff, Nat.reduceAdd, Nat.reduceSub, Nat.reduceMul, Nat.reduceLT, Nat.reduceLeDiff, Nat.reduceBEq, Nat.reduceDiv, Nat.reduceMod, Int.reduceToNat, Int.reduceNeg, Int.reduceAdd, Int.reduceSub, Int.reduceMul, Int.reduceEq, Int.reduceNe, Int.reduceLT, Int.reduceLE, Int.reduceGT, Int.reduceGE, h5, h3, h6, h9, h10, h11, hq]
            exact ⟨l.length - (i + 1), M3, by omega, hle3, i + 1, by omega, rfl, by rw [hwt], rfl, by rw [hwt]; exact hO3⟩
          · rw [if_neg hk] at hwt
            simp -implicitDefEqProofs (maxSteps := 1000000) (disch := omega) only [↓xsP, ↓vc_seq, xsQ, xsT, xsR, xsD, ↓reduceIte, reduceCtorEq, eq_self, ne_eq, imp_self, forall_const, Nat.reduceEqDiff, Nat.reduceAdd, Nat.reduceSub, Nat.reduceMul, Nat.reduceLT, Nat.reduceLeDiff, Nat.reduceBEq, Nat.reduceDiv, Nat.reduceMod, Int.reduceToNat, Int.reduceNeg, Int.reduceAdd, Int.reduceSub, Int.reduceMul, Int.reduceEq, Int.reduceNe, Int.reduceLT, Int.reduceLE, Int.reduceGT, Int.reduceGE, h5, h3, h6, h9, h10, h11, hq, hN8, hN3]
            exact ⟨l.length - (i + 1), M2, by omega, hle2, i + 1, by omega, rfl, by rw [hwt], rfl, by rw [hwt]; exact hO2⟩
        · have hk : q.key ≠ p.key := by omega
          have hw1 : wst p (o, false) q = (o ++ [q], false) := by
            simp only [wst]
            rw [if_neg (show ¬ (True ∧ q.key ≥ p.key) from fun h => hge h.2), if_pos hk]
          rw [hw1] at hwt
          have hk' : (¬ q.key = p.key) = True := eq_true hk
          simp -implicitDefEqProofs (maxSteps := 1000000) (disch := omega) only [↓xsP, ↓vc_seq, xsQ, xsT, xsR, xsD, ↓reduceIte, reduceCtorEq, eq_self, ne_eq, imp_self, forall_const, Nat.reduceEqDiff, Nat.reduceAdd, Nat.reduceSub, Nat.reduceMul, Nat.reduceLT, Nat.reduceLeDiff, Nat.reduceBEq, Nat.reduceDiv, Nat.reduceMod, Int.reduceToNat, Int.reduceNeg, Int.reduceAdd, Int.reduceSub, Int.reduceMul, Int.reduceEq, Int.reduceNe, Int.reduceLT, Int.reduceLE, Int.reduceGT, Int.reduceGE, h5, h3, h6, h9, h10, h11, hq, hM3', hk']
          refine newI_intro fun pb hpb => ?_
          simp -implicitDefEqProofs (maxSteps := 1000000) (disch := omega) only [↓xsP, ↓vc_seq, xsQ, xsT, xsR, xsD, ↓reduceIte, reduceCtorEq, eq_self, ne_eq, imp_self, forall_const, Nat.reduceEqDiff, Nat.reduceAdd, Nat.reduceSub, Nat.reduceMul, Nat.reduceLT, Nat.reduceLeDiff, Nat.reduceBEq, Nat.reduceDiv, Nat.reduceMod, Int.reduceToNat, Int.reduceNeg, Int.reduceAdd, Int.reduceSub, Int.reduceMul, Int.reduceEq, Int.reduceNe, Int.reduceLT, Int.reduceLE, Int.reduceGT, Int.reduceGE, h5, h3, h6, h9, h10, h11, hq, hM3']
          refine app_out (p := q) hO (hle8 _) hpb (by simp at hwl; omega) fun v' N' M2 hO2 hle2 _ => ?_
          obtain ⟨s5', rfl⟩ := hO2.val
          simp -implicitDefEqProofs (maxSteps := 1000000) (disch := omega) only [↓xsP, ↓vc_seq, xsQ, xsT, xsR, xsD, ↓reduceIte, reduceCtorEq, eq_self, ne_eq, imp_self, forall_const, Nat.reduceEqDiff, Nat.reduceAdd, Nat.reduceSub, Nat.reduceMul, Nat.reduceLT, Nat.reduceLeDiff, Nat.reduceBEq, Nat.reduceDiv, Nat.reduceMod, Int.reduceToNat, Int.reduceNeg, Int.reduceAdd, Int.reduceSub, Int.reduceMul, Int.reduceEq, Int.reduceNe, Int.reduceLT, Int.reduceLE, Int.reduceGT, Int.reduceGE, h5, h3, h6, h9, h10, h11, hq]
          exact ⟨l.length - (i + 1), M2, by omega, hle2, i + 1, by omega, rfl, by rw [hwt], rfl, by rw [hwt]; exact hO2⟩
    · have hi' : i = l.length := by omega
      subst hi'
      rw [List.take_length] at hO h6
      have hwl := wrun_len p l
      rw [withR]
      generalize wrun p l = s at hwl hO h6 ⊢
      obtain ⟨o, d⟩ := s
      simp only at hwl hO h6 ⊢
      cases d with
      | true =>
        simp -implicitDefEqProofs (maxSteps := 1000000) (disch := omega) only [↓xsP, ↓vc_seq, xsQ, xsT, xsR, xsD, ↓reduceIte, reduceCtorEq, eq_self, ne_eq, imp_self, forall_const, Nat.reduceEqDiff, Nat.reduceAdd, Nat.reduceSub, Nat.reduceMul, Nat.reduceLT, Nat.reduceLeDiff, Nat.reduceBEq, Nat.reduceDiv, Nat.reduceMod, Int.reduceToNat, Int.reduceNeg, Int.reduceAdd, Int.reduceSub, Int.reduceMul, Int.reduceEq, Int.reduceNe, Int.reduceLT, Int.reduceLE, Int.reduceGT, Int.reduceGE, h5, h3, h6, h9, h10, h11, hM3']
        exact fin_out hO (Mem.le_refl _) hMN ⟨rfl, rfl⟩
      | false =>
        simp -implicitDefEqProofs (maxSteps := 1000000) (disch := omega) only [↓xsP, ↓vc_seq, xsQ, xsT, xsR, xsD, ↓reduceIte, reduceCtorEq, eq_self, ne_eq, imp_self, forall_const, Nat.reduceEqDiff, Nat.reduceAdd, Nat.reduceSub, Nat.reduceMul, Nat.reduceLT, Nat.reduceLeDiff, Nat.reduceBEq, Nat.reduceDiv, Nat.reduceMod, Int.reduceToNat, Int.reduceNeg, Int.reduceAdd, Int.reduceSub, Int.reduceMul, Int.reduceEq, Int.reduceNe, Int.reduceLT, Int.reduceLE, Int.reduceGT, Int.reduceGE, h5, h3, h6, h9, h10, h11, hM3']
        refine newI_intro fun pb hpb => ?_
        simp -implicitDefEqProofs (maxSteps := 1000000) (disch := omega) only [↓xsP, ↓vc_seq, xsQ, xsT, xsR, xsD, ↓reduceIte, reduceCtorEq, eq_self, ne_eq, imp_self, forall_const, Nat.reduceEqDiff, Nat.reduceAdd, Nat.reduceSub, Nat.reduceMul, Nat.reduceLT, Nat.reduceLeDiff, Nat.reduceBEq, Nat.reduceDiv, Nat.reduceMod, Int.reduceToNat, Int.reduceNeg, Int.reduceAdd, Int.reduceSub, Int.reduceMul, Int.reduceEq, Int.reduceNe, Int.reduceLT, Int.reduceLE, Int.reduceGT, Int.reduceGE, h5, h3, h6, h9, h10, h11, hM3']
        refine app_out (p := p) hO (Mem.le_refl _) hpb (by simp at hwl; omega) fun v' N' M2 hO2 hle2 _ => ?_
        obtain ⟨s5', rfl⟩ := hO2.val
        simp -implicitDefEqProofs (maxSteps := 1000000) (disch := omega) only [↓xsP, ↓vc_seq, xsQ, xsT, xsR, xsD, ↓reduceIte, reduceCtorEq, eq_self, ne_eq, imp_self, forall_const, Nat.reduceEqDiff, Nat.reduceAdd, Nat.reduceSub, Nat.reduceMul, Nat.reduceLT, Nat.reduceLeDiff, Nat.reduceBEq, Nat.reduceDiv, Nat.reduceMod, Int.reduceToNat, Int.reduceNeg, Int.reduceAdd, Int.reduceSub, Int.reduceMul, Int.reduceEq, Int.reduceNe, Int.reduceLT, Int.reduceLE, Int.reduceGT, Int.reduceGE, h5, h3, h6, h9, h10, h11]
        exact fin_out hO2 hle2 hMN ⟨rfl, rfl⟩
end Go.X

/- What the reference's Do does: the same as leaf's. -/

set_option linter.unusedVariables false
set_option linter.unusedSimpArgs false
set_option maxHeartbeats 20000000
set_option maxRecDepth 100000
namespace Go.X
open Go.Proofs.Try (prog)

theorem wfold_lt {p : Pr} : ∀ (A o : List Pr), (∀ a ∈ A, a.key < p.key) → A.foldl (wst p) (o, false) = (o ++ A, false)
  | [], o, _ => by simp
  | x :: r, o, h => by
    have hx := h x (by simp)
    have e : wst p (o, false) x = (o ++ [x], false) := by
      simp only [wst]
      rw [if_neg (show ¬ (True ∧ x.key ≥ p.key) from fun h => by omega), if_pos (by omega)]
    rw [List.foldl_cons, e, wfold_lt r _ fun a ha => h a (by simp [ha])]
    simp
theorem wfold_gt {p : Pr} : ∀ (C o : List Pr), (∀ c ∈ C, p.key < c.key) → C.foldl (wst p) (o, true) = (o ++ C, true)
  | [], o, _ => by simp
  | x :: r, o, h => by
    have hx := h x (by simp)
    have e : wst p (o, true) x = (o ++ [x], true) := by
      have : x.key ≠ p.key := by omega
      simp [wst, this]
    rw [List.foldl_cons, e, wfold_gt r _ fun a ha => h a (by simp [ha])]
    simp
theorem withR_eq {l : List Pr} (h : Asc l) (p : Pr) : withR l p = withL l p := by
  rcases forms p.key l h with ⟨A, C, hO⟩ | ⟨A, x, C, hI⟩
  · have hw : withL l p = A ++ p :: C := hO.with p.val
    rw [hw]
    obtain ⟨rfl, h1, h2⟩ := hO
    rw [withR, wrun, List.foldl_append, wfold_lt A _ h1]
    cases C with
    | nil => simp
    | cons c r =>
      have hc := h2 c (by simp)
      have e : wst p ([] ++ A, false) c = (A ++ [p] ++ [c], true) := by
        have h1 : c.key ≠ p.key := by omega
        have h2 : p.key ≤ c.key := by omega
        simp [wst, h1, h2]
      rw [List.foldl_cons, e, wfold_gt r _ fun a ha => h2 a (by simp [ha])]
      simp
  · have hw : withL l p = A ++ p :: C := hI.with p.val
    rw [hw]
    obtain ⟨rfl, hk, h1, h2⟩ := hI
    rw [withR, wrun, List.foldl_append, wfold_lt A _ h1]
    have e : wst p ([] ++ A, false) x = (A ++ [p], true) := by
      have h2 : p.key ≤ x.key := by omega
      simp [wst, hk, h2]
    rw [List.foldl_cons, e, wfold_gt C _ h2]
    simp
theorem withL_len (l : List Pr) (p : Pr) : (withL l p).length ≤ l.length + 1 := by
  have := withRest_len l p
  rw [withL]
  simp only [List.length_append, List.length_take, List.length_cons, List.length_nil]
  omega
theorem withoutR_eq {l : List Pr} (h : Asc l) {op : Opn} (hk : op.kind = 3) : (l.filter fun p => decide (p.key ≠ op.key)) = oneL l op := by
  rcases one_forms op h (by omega) with ⟨A, C, hO, hc⟩ | ⟨A, x, C, hI, hc⟩
  · have e : oneL l op = l := by
      rcases hc with ⟨h', _⟩ | ⟨_, h'⟩
      · omega
      · exact h'
    rw [e]
    obtain ⟨rfl, h1, h2⟩ := hO
    refine List.filter_eq_self.2 fun a ha => ?_
    rcases List.mem_append.1 ha with h' | h'
    · have := h1 a h'; simp; omega
    · have := h2 a h'; simp; omega
  · have e : oneL l op = A ++ C := by
      rcases hc with ⟨h', _⟩ | ⟨_, h'⟩ | ⟨h', _⟩
      · omega
      · exact h'
      · omega
    rw [e]
    obtain ⟨rfl, hx, h1, h2⟩ := hI
    have f1 : A.filter (fun p => decide (p.key ≠ op.key)) = A := List.filter_eq_self.2 fun a ha => by have := h1 a ha; simp; omega
    have f2 : C.filter (fun p => decide (p.key ≠ op.key)) = C := List.filter_eq_self.2 fun a ha => by have := h2 a ha; simp; omega
    rw [List.filter_append, List.filter_cons, if_neg (by simp [hx]), f1, f2]

theorem app_clone {N : Mem} {l : List Pr} (hl : l.length ≤ 2000002) {K : AV → Mem → Prop} (hc : ∀ v M', OutP N v M' l → K v M') : @appI Go.Proofs.Try.prog N 27 27 (.l .nils) (.l (.sl (l.map Pr.row))) ⟨K⟩ := by
  refine app_nils _ _ _ _ 26 _ _ ti_27 rfl ti_26 (by kernel_rfl) (by decide) _ (l.map Pr.row) ?_ ?_ ?_ ?_ ?_
  · simp -implicitDefEqProofs (maxSteps := 1000000) (disch := omega) only [↓xsP, ↓vc_seq, xsQ, xsT, xsR, xsD, ↓reduceIte, reduceCtorEq, eq_self, ne_eq, imp_self, forall_const, Nat.reduceEqDiff, Nat.reduceAdd, Nat.reduceSub, Nat.reduceMul, Nat.reduceLT, Nat.reduceLeDiff, Nat.reduceBEq, Nat.reduceDiv, Nat.reduceMod, Int.reduceToNat, Int.reduceNeg, Int.reduceAdd, Int.reduceSub, Int.reduceMul, Int.reduceEq, Int.reduceNe, Int.reduceLT, Int.reduceLE, Int.reduceGT, Int.reduceGE]
    rw [if_pos (rows2 l)]
  · exact Nat.le_trans (Nat.mul_le_mul_right _ (show (l.map Pr.row).length ≤ 2000002 by simpa using hl)) (by decide)
  · simp; omega
  · intro h
    have : l = [] := by simpa using h
    exact hc _ _ (.inl ⟨this, rfl, rfl⟩)
  · intro _ id hid
    exact hc _ _ (.inr ⟨id, hid, by simp, rfl⟩)
/-- A slice that is kept, or is being made. -/
def OutQ (M : Mem) (s : Lf) (M' : Mem) (rows : List Pr) : Prop := s = .sl (rows.map Pr.row) ∨ OutP M (.l s) M' rows
theorem finI_outQ {M M' N : Mem} {s : Lf} {rows : List Pr} {a b c d e f : Lf} {K : AV → Mem → Prop} (p5 : Nat) (h : OutQ M s M' rows) (hle : ∀ k bk, k ≠ p5 → M' k = some bk → N k = some bk) {b5 : Blk} (h5 : M p5 = some b5) {M0 : Mem} (h0 : M0.le M) (h05 : M0 p5 = none) (hM : M.le M')
    (hf : ∀ id r, [a, b, c, d, e, f].map (frzL id r) = [a, b, c, d, e, f]) (hK : K (.tup [.l (.sl (rows.map Pr.row)), .agg ([a, b, c, d, e, f].map wkL)]) M0) : @finI Go.Proofs.Try.prog (.tup [.l s, .agg [a, b, c, d, e, f]]) N ⟨K⟩ := by
  refine finI_of ?_
  have hMN : M0.le N := fun k bk hk => hle _ _ (fun e => by subst e; rw [h05] at hk; cases hk) (hM _ _ (h0 _ _ hk))
  rcases h with rfl | ⟨rfl, h, rfl⟩ | ⟨idO, hO, h, rfl⟩
  · exact XFin.wk (XFin.le hMN hK)
  · cases h
    exact XFin.wk (XFin.le hMN hK)
  · cases h
    have hO5 := lt_of_bnd hO h5
    refine XFin.frz idO (hle _ _ (by omega) (Mem.set_eq _ _ _)) ?_
    have e2 : frzA idO (rows.map Pr.row) (.tup [.l (.ms idO 0 rows.length), .agg [a, b, c, d, e, f]]) = .tup [.l (.sl (rows.map Pr.row)), .agg [a, b, c, d, e, f]] := by
      have := hf idO (rows.map Pr.row)
      simp only [frzA, frz1, List.map_cons, List.map_nil] at this ⊢
      rw [this]
      simp [frzL, List.take_of_length_le]
    rw [e2]
    refine XFin.wk (XFin.le (M' := M0) (fun k bk hk => ?_) hK)
    have hk' := h0 _ _ hk
    have := lt_of_bnd hO hk'
    rw [Mem.set_ne _ _ _ _ (by omega)]
    exact hMN _ _ hk

theorem doR_spec (l : List Pr) (hl : l.length ≤ 1000000) (op : Opn) (M : Mem) :
    XCalls Go.Proofs.Try.prog 23 [.l (.sl (l.map Pr.row)), .agg op.row] M fun r M' => r = .tup [.l (.sl ((doL l op).map Pr.row)), .agg (doA l op).row] ∧ M' = M := by
  refine xcalls_intro (rs := [.tmp 4, .cell 5 29]) Go.Proofs.Try.func23 rfl (by kernel_rfl) rfl rfl (by kernel_rfl) (by simp) ?_
  simp -implicitDefEqProofs (maxSteps := 1000000) (disch := omega) only [↓xsP, ↓vc_seq, xsQ, xsT, xsR, xsD, ↓reduceIte, reduceCtorEq, eq_self, ne_eq, imp_self, forall_const, Nat.reduceEqDiff, Nat.reduceAdd, Nat.reduceSub, Nat.reduceMul, Nat.reduceLT, Nat.reduceLeDiff, Nat.reduceBEq, Nat.reduceDiv, Nat.reduceMod, Int.reduceToNat, Int.reduceNeg, Int.reduceAdd, Int.reduceSub, Int.reduceMul, Int.reduceEq, Int.reduceNe, Int.reduceLT, Int.reduceLE, Int.reduceGT, Int.reduceGE]
  refine newI_intro fun p3 hp3 => ?_
  simp -implicitDefEqProofs (maxSteps := 1000000) (disch := omega) only [↓xsP, ↓vc_seq, xsQ, xsT, xsR, xsD, ↓reduceIte, reduceCtorEq, eq_self, ne_eq, imp_self, forall_const, Nat.reduceEqDiff, Nat.reduceAdd, Nat.reduceSub, Nat.reduceMul, Nat.reduceLT, Nat.reduceLeDiff, Nat.reduceBEq, Nat.reduceDiv, Nat.reduceMod, Int.reduceToNat, Int.reduceNeg, Int.reduceAdd, Int.reduceSub, Int.reduceMul, Int.reduceEq, Int.reduceNe, Int.reduceLT, Int.reduceLE, Int.reduceGT, Int.reduceGE]
  refine newI_intro fun p5 hp5 => ?_
  obtain ⟨h35, hp5⟩ := bnd_new hp5
  have hM3 : ((M.set p3 (.cells 23 [op.row] 0)).set p5 (.cells 29 [arow ans0] 0)) p3 = some (.cells 23 [op.row] 0) := by
    rw [Mem.set_ne _ _ _ _ (by omega), Mem.set_eq]
  have hM5 := Mem.set_eq (M.set p3 (.cells 23 [op.row] 0)) p5 (.cells 29 [arow ans0] 0)
  have hMN : M.le ((M.set p3 (.cells 23 [op.row] 0)).set p5 (.cells 29 [arow ans0] 0)) := le_new (le_new (Mem.le_refl M) hp3) hp5
  simp only [Opn.row, arow, ans0] at hM3 hM5 hMN
  simp -implicitDefEqProofs (maxSteps := 1000000) (disch := omega) only [↓xsP, ↓vc_seq, xsQ, xsT, xsR, xsD, ↓reduceIte, reduceCtorEq, eq_self, ne_eq, imp_self, forall_const, Nat.reduceEqDiff, Nat.reduceAdd, Nat.reduceSub, Nat.reduceMul, Nat.reduceLT, Nat.reduceLeDiff, Nat.reduceBEq, Nat.reduceDiv, Nat.reduceMod, Int.reduceToNat, Int.reduceNeg, Int.reduceAdd, Int.reduceSub, Int.reduceMul, Int.reduceEq, Int.reduceNe, Int.reduceLT, Int.reduceLE, Int.reduceGT, Int.reduceGE]
  generalize (M.set p3 _).set p5 _ = N at hM3 hM5 hMN ⊢
  refine app_clone (by omega) fun v M1 hO => ?_
  obtain ⟨s6, rfl⟩ := hO.val
  have hN1 := hO.base
  have h13 := hN1 _ _ hM3
  have h15 := hN1 _ _ hM5
  simp -implicitDefEqProofs (maxSteps := 1000000) (disch := omega) only [↓xsP, ↓vc_seq, xsQ, xsT, xsR, xsD, ↓reduceIte, reduceCtorEq, eq_self, ne_eq, imp_self, forall_const, Nat.reduceEqDiff, Nat.reduceAdd, Nat.reduceSub, Nat.reduceMul, Nat.reduceLT, Nat.reduceLeDiff, Nat.reduceBEq, Nat.reduceDiv, Nat.reduceMod, Int.reduceToNat, Int.reduceNeg, Int.reduceAdd, Int.reduceSub, Int.reduceMul, Int.reduceEq, Int.reduceNe, Int.reduceLT, Int.reduceLE, Int.reduceGT, Int.reduceGE]
  refine call_of (mayPairs_spec l (by omega) _) ?_
  cases hr : bof (Rises l) with
  | false =>
    have hk : okOp l op = false := by rw [okOp, hr]; rfl
    simp -implicitDefEqProofs (maxSteps := 1000000) (disch := omega) only [↓xsP, ↓vc_seq, xsQ, xsT, xsR, xsD, ↓reduceIte, reduceCtorEq, eq_self, ne_eq, imp_self, forall_const, Nat.reduceEqDiff, Nat.reduceAdd, Nat.reduceSub, Nat.reduceMul, Nat.reduceLT, Nat.reduceLeDiff, Nat.reduceBEq, Nat.reduceDiv, Nat.reduceMod, Int.reduceToNat, Int.reduceNeg, Int.reduceAdd, Int.reduceSub, Int.reduceMul, Int.reduceEq, Int.reduceNe, Int.reduceLT, Int.reduceLE, Int.reduceGT, Int.reduceGE, h15]
    refine finI_outQ p5 (.inr hO) (fun k bk hk hh => by rw [Mem.set_ne _ _ _ _ (Ne.symm hk)]; exact hh) hM5 hMN (hp5 _ (Nat.le_refl _)) hN1 (fun _ _ => rfl) ⟨?_, rfl⟩
    rw [doL, doA, if_pos hk, if_pos hk]
    rfl
  | true =>
    simp -implicitDefEqProofs (maxSteps := 1000000) (disch := omega) only [↓xsP, ↓vc_seq, xsQ, xsT, xsR, xsD, ↓reduceIte, reduceCtorEq, eq_self, ne_eq, imp_self, forall_const, Nat.reduceEqDiff, Nat.reduceAdd, Nat.reduceSub, Nat.reduceMul, Nat.reduceLT, Nat.reduceLeDiff, Nat.reduceBEq, Nat.reduceDiv, Nat.reduceMod, Int.reduceToNat, Int.reduceNeg, Int.reduceAdd, Int.reduceSub, Int.reduceMul, Int.reduceEq, Int.reduceNe, Int.reduceLT, Int.reduceLE, Int.reduceGT, Int.reduceGE, h13]
    refine call_of (mayOpR_spec op _) ?_
    cases hm : mayOpB op with
    | false =>
      have hk : okOp l op = false := by rw [okOp, hr, hm]; rfl
      simp -implicitDefEqProofs (maxSteps := 1000000) (disch := omega) only [↓xsP, ↓vc_seq, xsQ, xsT, xsR, xsD, ↓reduceIte, reduceCtorEq, eq_self, ne_eq, imp_self, forall_const, Nat.reduceEqDiff, Nat.reduceAdd, Nat.reduceSub, Nat.reduceMul, Nat.reduceLT, Nat.reduceLeDiff, Nat.reduceBEq, Nat.reduceDiv, Nat.reduceMod, Int.reduceToNat, Int.reduceNeg, Int.reduceAdd, Int.reduceSub, Int.reduceMul, Int.reduceEq, Int.reduceNe, Int.reduceLT, Int.reduceLE, Int.reduceGT, Int.reduceGE, h15]
      refine finI_outQ p5 (.inr hO) (fun k bk hk hh => by rw [Mem.set_ne _ _ _ _ (Ne.symm hk)]; exact hh) hM5 hMN (hp5 _ (Nat.le_refl _)) hN1 (fun _ _ => rfl) ⟨?_, rfl⟩
      rw [doL, doA, if_pos hk, if_pos hk]
      rfl
    | true =>
      have hP : Asc l := (rises_asc l).1 (bof_iff.1 hr)
      simp -implicitDefEqProofs (maxSteps := 1000000) (disch := omega) only [↓xsP, ↓vc_seq, xsQ, xsT, xsR, xsD, ↓reduceIte, reduceCtorEq, eq_self, ne_eq, imp_self, forall_const, Nat.reduceEqDiff, Nat.reduceAdd, Nat.reduceSub, Nat.reduceMul, Nat.reduceLT, Nat.reduceLeDiff, Nat.reduceBEq, Nat.reduceDiv, Nat.reduceMod, Int.reduceToNat, Int.reduceNeg, Int.reduceAdd, Int.reduceSub, Int.reduceMul, Int.reduceEq, Int.reduceNe, Int.reduceLT, Int.reduceLE, Int.reduceGT, Int.reduceGE, h13, h15]
      refine newI_intro fun p7 hp7 => ?_
      have h37 := lt_of_bnd hp7 h13
      have h57 := lt_of_bnd hp7 h15
      have hok : ¬ okOp l op = false := by rw [okOp, hr, hm]; simp
      have hmk := may_kind hm
      have hget : ∀ {k : Int}, op.kind = k → 4 ≤ k → doL l op = l := fun h1 h2 => doL_read (by omega)
      have hle7 : ∀ b, M1.le (M1.set p7 b) := fun b => le_new (Mem.le_refl _) hp7
      obtain ⟨a0, ha0⟩ : ∃ a0 : Ans, a0 = if 0 ≤ place l op.key ∧ op.kind ≤ 4 then ⟨0, true, l.getD (place l op.key).toNat default, 0, []⟩ else ans0 := ⟨_, rfl⟩
      have ha04 : op.kind ≤ 4 → a0 = doA l op := fun h4 => by
        rw [doA_one hP hm h4, ha0, ansAt]
        by_cases h0 : 0 ≤ place l op.key
        · rw [if_pos ⟨h0, h4⟩, if_pos h0]
        · rw [if_neg (fun h => h0 h.1), if_neg h0]
      have ha05 : 5 ≤ op.kind → a0 = ans0 := fun h5 => by rw [ha0, if_neg (by omega)]
      have hpn : a0.pairs = [] := by rw [ha0]; split <;> rfl
      simp -implicitDefEqProofs (maxSteps := 1000000) (disch := omega) only [↓xsP, xsQ, xsT, xsR, xsD, ↓reduceIte, reduceCtorEq, eq_self, ne_eq, imp_self, forall_const, Nat.reduceEqDiff, Nat.reduceAdd, Nat.reduceSub, Nat.reduceMul, Nat.reduceLT, Nat.reduceLeDiff, Nat.reduceBEq, Nat.reduceDiv, Nat.reduceMod, Int.reduceToNat, Int.reduceNeg, Int.reduceAdd, Int.reduceSub, Int.reduceMul, Int.reduceEq, Int.reduceNe, Int.reduceLT, Int.reduceLE, Int.reduceGT, Int.reduceGE]
      refine vc_cut (fun fr N' => fr 0 = .l (.sl (l.map Pr.row)) ∧ fr 3 = .l (.ptr p3 0 0) ∧ fr 5 = .l (.ptr p5 0 0) ∧ fr 6 = .l s6 ∧ fr 7 = .l (.ptr p7 0 0) ∧ N' = M1.set p7 (.cells 29 [arow a0] 0)) ?_ ?_
      · have hfs := fun N => findR_spec l (by omega) op.key N
        rcases place_cases l op.key with ⟨hp, _⟩ | ⟨i, hi, hp, _, _⟩
        · have ha0' : arow a0 = arow ans0 := by rw [ha0, hp, if_neg (by omega)]
          rw [ha0']
          rw [hp] at hfs
          simp -implicitDefEqProofs (maxSteps := 1000000) (disch := omega) only [↓xsP, ↓vc_seq, xsQ, xsT, xsR, xsD, ↓reduceIte, reduceCtorEq, eq_self, ne_eq, imp_self, forall_const, Nat.reduceEqDiff, Nat.reduceAdd, Nat.reduceSub, Nat.reduceMul, Nat.reduceLT, Nat.reduceLeDiff, Nat.reduceBEq, Nat.reduceDiv, Nat.reduceMod, Int.reduceToNat, Int.reduceNeg, Int.reduceAdd, Int.reduceSub, Int.reduceMul, Int.reduceEq, Int.reduceNe, Int.reduceLT, Int.reduceLE, Int.reduceGT, Int.reduceGE, h13, h15]
          refine call_of (hfs _) ?_
          simp -implicitDefEqProofs (maxSteps := 1000000) (disch := omega) only [↓xsP, ↓vc_seq, xsQ, xsT, xsR, xsD, ↓reduceIte, reduceCtorEq, eq_self, ne_eq, imp_self, forall_const, Nat.reduceEqDiff, Nat.reduceAdd, Nat.reduceSub, Nat.reduceMul, Nat.reduceLT, Nat.reduceLeDiff, Nat.reduceBEq, Nat.reduceDiv, Nat.reduceMod, Int.reduceToNat, Int.reduceNeg, Int.reduceAdd, Int.reduceSub, Int.reduceMul, Int.reduceEq, Int.reduceNe, Int.reduceLT, Int.reduceLE, Int.reduceGT, Int.reduceGE, h13, h15, arow, ans0]
        · have q0 : (0 ≤ (i : Int)) = True := eq_true (by omega)
          rw [hp] at hfs
          by_cases h4 : op.kind ≤ 4
          · have q4 : (op.kind ≤ 4) = True := eq_true h4
            have ha0' : arow a0 = arow ⟨0, true, l.getD i default, 0, []⟩ := by rw [ha0, hp, if_pos ⟨by omega, h4⟩]; rfl
            rw [ha0']
            simp -implicitDefEqProofs (maxSteps := 1000000) (disch := omega) only [↓xsP, ↓vc_seq, xsQ, xsT, xsR, xsD, ↓reduceIte, reduceCtorEq, eq_self, ne_eq, imp_self, forall_const, Nat.reduceEqDiff, Nat.reduceAdd, Nat.reduceSub, Nat.reduceMul, Nat.reduceLT, Nat.reduceLeDiff, Nat.reduceBEq, Nat.reduceDiv, Nat.reduceMod, Int.reduceToNat, Int.reduceNeg, Int.reduceAdd, Int.reduceSub, Int.reduceMul, Int.reduceEq, Int.reduceNe, Int.reduceLT, Int.reduceLE, Int.reduceGT, Int.reduceGE, h13, h15, q0, q4]
            refine call_of (hfs _) ?_
            simp -implicitDefEqProofs (maxSteps := 1000000) (disch := omega) only [↓xsP, ↓vc_seq, xsQ, xsT, xsR, xsD, ↓reduceIte, reduceCtorEq, eq_self, ne_eq, imp_self, forall_const, Nat.reduceEqDiff, Nat.reduceAdd, Nat.reduceSub, Nat.reduceMul, Nat.reduceLT, Nat.reduceLeDiff, Nat.reduceBEq, Nat.reduceDiv, Nat.reduceMod, Int.reduceToNat, Int.reduceNeg, Int.reduceAdd, Int.reduceSub, Int.reduceMul, Int.reduceEq, Int.reduceNe, Int.reduceLT, Int.reduceLE, Int.reduceGT, Int.reduceGE, h13, h15, q0, q4, arow]
          · have q4 : (op.kind ≤ 4) = False := eq_false h4
            have ha0' : arow a0 = arow ans0 := by rw [ha0, if_neg (fun h => h4 h.2)]
            rw [ha0']
            simp -implicitDefEqProofs (maxSteps := 1000000) (disch := omega) only [↓xsP, ↓vc_seq, xsQ, xsT, xsR, xsD, ↓reduceIte, reduceCtorEq, eq_self, ne_eq, imp_self, forall_const, Nat.reduceEqDiff, Nat.reduceAdd, Nat.reduceSub, Nat.reduceMul, Nat.reduceLT, Nat.reduceLeDiff, Nat.reduceBEq, Nat.reduceDiv, Nat.reduceMod, Int.reduceToNat, Int.reduceNeg, Int.reduceAdd, Int.reduceSub, Int.reduceMul, Int.reduceEq, Int.reduceNe, Int.reduceLT, Int.reduceLE, Int.reduceGT, Int.reduceGE, h13, h15, q0, q4]
            refine call_of (hfs _) ?_
            simp -implicitDefEqProofs (maxSteps := 1000000) (disch := omega) only [↓xsP, ↓vc_seq, xsQ, xsT, xsR, xsD, ↓reduceIte, reduceCtorEq, eq_self, ne_eq, imp_self, forall_const, Nat.reduceEqDiff, Nat.reduceAdd, Nat.reduceSub, Nat.reduceMul, Nat.reduceLT, Nat.reduceLeDiff, Nat.reduceBEq, Nat.reduceDiv, Nat.reduceMod, Int.reduceToNat, Int.reduceNeg, Int.reduceAdd, Int.reduceSub, Int.reduceMul, Int.reduceEq, Int.reduceNe, Int.reduceLT, Int.reduceLE, Int.reduceGT, Int.reduceGE, h13, h15, q0, q4, arow, ans0]
      · rintro fr N' ⟨h0, h3, h5, h6, h7, rfl⟩
        simp only [arow]
        refine vc_cut (fun fr N' => fr 5 = .l (.ptr p5 0 0) ∧ fr 7 = .l (.ptr p7 0 0) ∧ ∃ s a b c d e f, fr 6 = .l s ∧ OutQ N s M1 (doL l op) ∧ N' = M1.set p7 (.cells 29 [[a, b, c, d, e, f]] 0) ∧ [a, b, c, d, e, f].map wkL = (doA l op).row ∧ ∀ id r, [a, b, c, d, e, f].map (frzL id r) = [a, b, c, d, e, f]) ?_ ?_
        · have hq1 : ∀ b c k bk, k ≠ p5 → M1 k = some bk → ((M1.set p7 b).set p5 c) k = some bk := fun b c k bk hk hh => by
            rw [Mem.set_ne _ _ _ _ (Ne.symm hk)]
            exact hle7 _ _ _ hh
          have hok4 : op.kind ≤ 4 → a0.ok = decide (0 ≤ place l op.key) := fun h4 => by
            rw [ha0]
            by_cases h0p : 0 ≤ place l op.key
            · rw [if_pos ⟨h0p, h4⟩]; simp [h0p]
            · rw [if_neg (fun h => h0p h.1)]; simp [h0p, ans0]
          have ha0w : op.kind ≤ 4 → [Lf.int .i64 a0.err, .bool a0.ok, .int .i64 a0.pair.key, .int .i64 a0.pair.val, .int .i64 a0.n, .nils].map wkL = (doA l op).row := fun h4 => by
            rw [← ha04 h4]
            simp [wkL, Ans.row, hpn]
          have kcases : op.kind = 1 ∨ op.kind = 2 ∨ op.kind = 3 ∨ op.kind = 4 ∨ op.kind = 5 ∨ op.kind = 6 ∨ op.kind = 7 ∨ op.kind = 8 := by omega
          rcases kcases with k | k | k | k | k | k | k | k
          · simp -implicitDefEqProofs (maxSteps := 1000000) (disch := omega) only [↓xsP, ↓vc_seq, xsQ, xsT, xsR, xsD, ↓reduceIte, reduceCtorEq, eq_self, ne_eq, imp_self, forall_const, Nat.reduceEqDiff, Nat.reduceAdd, Nat.reduceSub, Nat.reduceMul, Nat.reduceLT, Nat.reduceLeDiff, Nat.reduceBEq, Nat.reduceDiv, Nat.reduceMod, Int.reduceToNat, Int.reduceNeg, Int.reduceAdd, Int.reduceSub, Int.reduceMul, Int.reduceEq, Int.reduceNe, Int.reduceLT, Int.reduceLE, Int.reduceGT, Int.reduceGE, h0, h3, h5, h6, h7, h13, h15, k]
            refine xwrite (fun n0 => [ (9, p5)]) [9] [] [[], [], [], [], [], [], [], [], [], []] (by kernel_rfl) (by kernel_rfl) (by kernel_rfl) (by kernel_rfl) (fun n0 hn0 => ⟨rfl, ?_, ?_⟩)
            · exact TOk_cons (.inl (lt_of_bnd hn0 (hle7 _ _ _ h15))) (TOk_nil _ _)
            · have h5n := lt_of_bnd hn0 (hle7 _ _ _ h15)
              have h3n := lt_of_bnd hn0 (hle7 _ _ _ h13)
              have h7n := lt_of_bnd hn0 (Mem.set_eq _ p7 _)
              simp -implicitDefEqProofs (maxSteps := 1000000) (disch := omega) only [↓xsP, ↓vc_seq, xsQ, xsT, xsR, xsD, ↓reduceIte, reduceCtorEq, eq_self, ne_eq, imp_self, forall_const, Nat.reduceEqDiff, Nat.reduceAdd, Nat.reduceSub, Nat.reduceMul, Nat.reduceLT, Nat.reduceLeDiff, Nat.reduceBEq, Nat.reduceDiv, Nat.reduceMod, Int.reduceToNat, Int.reduceNeg, Int.reduceAdd, Int.reduceSub, Int.reduceMul, Int.reduceEq, Int.reduceNe, Int.reduceLT, Int.reduceLE, Int.reduceGT, Int.reduceGE, h0, h3, h5, h6, h7, h13, h15, k]
              refine wcallI_of (fun M' _ => withR_spec l hl ⟨op.key, op.val⟩ M') ?_
              simp -implicitDefEqProofs (maxSteps := 1000000) (disch := omega) only [↓xsP, ↓vc_seq, xsQ, xsT, xsR, xsD, ↓reduceIte, reduceCtorEq, eq_self, ne_eq, imp_self, forall_const, Nat.reduceEqDiff, Nat.reduceAdd, Nat.reduceSub, Nat.reduceMul, Nat.reduceLT, Nat.reduceLeDiff, Nat.reduceBEq, Nat.reduceDiv, Nat.reduceMod, Int.reduceToNat, Int.reduceNeg, Int.reduceAdd, Int.reduceSub, Int.reduceMul, Int.reduceEq, Int.reduceNe, Int.reduceLT, Int.reduceLE, Int.reduceGT, Int.reduceGE, h0, h3, h5, h6, h7, h13, h15, k]
              refine finI_outQ p5 (M' := M1) (rows := doL l op) (.inl ?_) (hq1 _ _) hM5 hMN (hp5 _ (Nat.le_refl _)) hN1 (fun _ _ => rfl) ⟨?_, rfl⟩
              · rw [withR_eq hP, doL_upd hP hm (by omega), oneL, if_pos (.inl k)]
              · rw [ha0w (by omega)]
                rfl
          · by_cases h0p : 0 ≤ place l op.key
            · have hokv : a0.ok = true := by rw [hok4 (by omega)]; simp [h0p]
              simp -implicitDefEqProofs (maxSteps := 1000000) (disch := omega) only [↓xsP, ↓vc_seq, xsQ, xsT, xsR, xsD, ↓reduceIte, reduceCtorEq, eq_self, ne_eq, imp_self, forall_const, Nat.reduceEqDiff, Nat.reduceAdd, Nat.reduceSub, Nat.reduceMul, Nat.reduceLT, Nat.reduceLeDiff, Nat.reduceBEq, Nat.reduceDiv, Nat.reduceMod, Int.reduceToNat, Int.reduceNeg, Int.reduceAdd, Int.reduceSub, Int.reduceMul, Int.reduceEq, Int.reduceNe, Int.reduceLT, Int.reduceLE, Int.reduceGT, Int.reduceGE, h0, h3, h5, h6, h7, h13, h15, k, hokv]
              refine ⟨_, _, _, _, _, _, _, rfl, .inr ?_, rfl, ?_, fun _ _ => rfl⟩
              · rw [doL_upd hP hm (by omega), oneL, if_neg (by omega), if_neg (by omega)]
                exact hO
              · have := ha0w (by omega)
                rw [hokv] at this
                exact this
            · have hokv : a0.ok = false := by rw [hok4 (by omega)]; simp [h0p]
              simp -implicitDefEqProofs (maxSteps := 1000000) (disch := omega) only [↓xsP, ↓vc_seq, xsQ, xsT, xsR, xsD, ↓reduceIte, reduceCtorEq, eq_self, ne_eq, imp_self, forall_const, Nat.reduceEqDiff, Nat.reduceAdd, Nat.reduceSub, Nat.reduceMul, Nat.reduceLT, Nat.reduceLeDiff, Nat.reduceBEq, Nat.reduceDiv, Nat.reduceMod, Int.reduceToNat, Int.reduceNeg, Int.reduceAdd, Int.reduceSub, Int.reduceMul, Int.reduceEq, Int.reduceNe, Int.reduceLT, Int.reduceLE, Int.reduceGT, Int.reduceGE, h0, h3, h5, h6, h7, h13, h15, k, hokv]
              refine call_of (withR_spec l hl ⟨op.key, op.val⟩ _) ?_
              simp -implicitDefEqProofs (maxSteps := 1000000) (disch := omega) only [↓xsP, ↓vc_seq, xsQ, xsT, xsR, xsD, ↓reduceIte, reduceCtorEq, eq_self, ne_eq, imp_self, forall_const, Nat.reduceEqDiff, Nat.reduceAdd, Nat.reduceSub, Nat.reduceMul, Nat.reduceLT, Nat.reduceLeDiff, Nat.reduceBEq, Nat.reduceDiv, Nat.reduceMod, Int.reduceToNat, Int.reduceNeg, Int.reduceAdd, Int.reduceSub, Int.reduceMul, Int.reduceEq, Int.reduceNe, Int.reduceLT, Int.reduceLE, Int.reduceGT, Int.reduceGE, h0, h3, h5, h6, h7, h13, h15, k, hokv]
              refine ⟨_, _, _, _, _, _, _, rfl, .inl ?_, rfl, ?_, fun _ _ => rfl⟩
              · rw [withR_eq hP, doL_upd hP hm (by omega), oneL, if_pos (.inr ⟨k, by omega⟩)]
              · have := ha0w (by omega)
                rw [hokv] at this
                exact this
          · simp -implicitDefEqProofs (maxSteps := 1000000) (disch := omega) only [↓xsP, ↓vc_seq, xsQ, xsT, xsR, xsD, ↓reduceIte, reduceCtorEq, eq_self, ne_eq, imp_self, forall_const, Nat.reduceEqDiff, Nat.reduceAdd, Nat.reduceSub, Nat.reduceMul, Nat.reduceLT, Nat.reduceLeDiff, Nat.reduceBEq, Nat.reduceDiv, Nat.reduceMod, Int.reduceToNat, Int.reduceNeg, Int.reduceAdd, Int.reduceSub, Int.reduceMul, Int.reduceEq, Int.reduceNe, Int.reduceLT, Int.reduceLE, Int.reduceGT, Int.reduceGE, h0, h3, h5, h6, h7, h13, h15, k]
            refine call_of (without_spec l (by omega) op.key _) ?_
            simp -implicitDefEqProofs (maxSteps := 1000000) (disch := omega) only [↓xsP, ↓vc_seq, xsQ, xsT, xsR, xsD, ↓reduceIte, reduceCtorEq, eq_self, ne_eq, imp_self, forall_const, Nat.reduceEqDiff, Nat.reduceAdd, Nat.reduceSub, Nat.reduceMul, Nat.reduceLT, Nat.reduceLeDiff, Nat.reduceBEq, Nat.reduceDiv, Nat.reduceMod, Int.reduceToNat, Int.reduceNeg, Int.reduceAdd, Int.reduceSub, Int.reduceMul, Int.reduceEq, Int.reduceNe, Int.reduceLT, Int.reduceLE, Int.reduceGT, Int.reduceGE, h0, h3, h5, h6, h7, h13, h15, k]
            refine ⟨_, _, _, _, _, _, _, rfl, .inl ?_, rfl, ha0w (by omega), fun _ _ => rfl⟩
            rw [withoutR_eq hP k, doL_upd hP hm (by omega)]
          · simp -implicitDefEqProofs (maxSteps := 1000000) (disch := omega) only [↓xsP, ↓vc_seq, xsQ, xsT, xsR, xsD, ↓reduceIte, reduceCtorEq, eq_self, ne_eq, imp_self, forall_const, Nat.reduceEqDiff, Nat.reduceAdd, Nat.reduceSub, Nat.reduceMul, Nat.reduceLT, Nat.reduceLeDiff, Nat.reduceBEq, Nat.reduceDiv, Nat.reduceMod, Int.reduceToNat, Int.reduceNeg, Int.reduceAdd, Int.reduceSub, Int.reduceMul, Int.reduceEq, Int.reduceNe, Int.reduceLT, Int.reduceLE, Int.reduceGT, Int.reduceGE, h0, h3, h5, h6, h7, h13, h15, k]
            refine ⟨_, _, _, _, _, _, _, rfl, .inr ?_, rfl, ha0w (by omega), fun _ _ => rfl⟩
            rw [hget k (by omega)]
            exact hO
          · have ha0' := ha05 (by omega)
            subst ha0'
            have hdo : doA l op = ⟨0, false, ⟨0, 0⟩, (rng l op.key op.to).length, rng l op.key op.to⟩ := by rw [doA, if_neg hok, if_pos k]; rfl
            simp -implicitDefEqProofs (maxSteps := 1000000) (disch := omega) only [↓xsP, ↓vc_seq, xsQ, xsT, xsR, xsD, ↓reduceIte, reduceCtorEq, eq_self, ne_eq, imp_self, forall_const, Nat.reduceEqDiff, Nat.reduceAdd, Nat.reduceSub, Nat.reduceMul, Nat.reduceLT, Nat.reduceLeDiff, Nat.reduceBEq, Nat.reduceDiv, Nat.reduceMod, Int.reduceToNat, Int.reduceNeg, Int.reduceAdd, Int.reduceSub, Int.reduceMul, Int.reduceEq, Int.reduceNe, Int.reduceLT, Int.reduceLE, Int.reduceGT, Int.reduceGE, h0, h3, h5, h6, h7, h13, h15, k, ans0]
            refine call_of (between_spec l (by omega) op.key op.to _) ?_
            simp -implicitDefEqProofs (maxSteps := 1000000) (disch := omega) only [↓xsP, ↓vc_seq, xsQ, xsT, xsR, xsD, ↓reduceIte, reduceCtorEq, eq_self, ne_eq, imp_self, forall_const, Nat.reduceEqDiff, Nat.reduceAdd, Nat.reduceSub, Nat.reduceMul, Nat.reduceLT, Nat.reduceLeDiff, Nat.reduceBEq, Nat.reduceDiv, Nat.reduceMod, Int.reduceToNat, Int.reduceNeg, Int.reduceAdd, Int.reduceSub, Int.reduceMul, Int.reduceEq, Int.reduceNe, Int.reduceLT, Int.reduceLE, Int.reduceGT, Int.reduceGE, h0, h3, h5, h6, h7, h13, h15, k, ans0]
            refine ⟨_, _, _, _, _, _, _, rfl, .inr ?_, rfl, by rw [hdo]; rfl, fun _ _ => rfl⟩
            rw [hget k (by omega)]
            exact hO
          · have ha0' := ha05 (by omega)
            subst ha0'
            have hdo : doA l op = ⟨0, false, ⟨0, 0⟩, (rng l op.key op.to).length, []⟩ := by rw [doA, if_neg hok, if_neg (by omega), if_pos k]; rfl
            simp -implicitDefEqProofs (maxSteps := 1000000) (disch := omega) only [↓xsP, ↓vc_seq, xsQ, xsT, xsR, xsD, ↓reduceIte, reduceCtorEq, eq_self, ne_eq, imp_self, forall_const, Nat.reduceEqDiff, Nat.reduceAdd, Nat.reduceSub, Nat.reduceMul, Nat.reduceLT, Nat.reduceLeDiff, Nat.reduceBEq, Nat.reduceDiv, Nat.reduceMod, Int.reduceToNat, Int.reduceNeg, Int.reduceAdd, Int.reduceSub, Int.reduceMul, Int.reduceEq, Int.reduceNe, Int.reduceLT, Int.reduceLE, Int.reduceGT, Int.reduceGE, h0, h3, h5, h6, h7, h13, h15, k, ans0]
            refine call_of (between_spec l (by omega) op.key op.to _) ?_
            simp -implicitDefEqProofs (maxSteps := 1000000) (disch := omega) only [↓xsP, ↓vc_seq, xsQ, xsT, xsR, xsD, ↓reduceIte, reduceCtorEq, eq_self, ne_eq, imp_self, forall_const, Nat.reduceEqDiff, Nat.reduceAdd, Nat.reduceSub, Nat.reduceMul, Nat.reduceLT, Nat.reduceLeDiff, Nat.reduceBEq, Nat.reduceDiv, Nat.reduceMod, Int.reduceToNat, Int.reduceNeg, Int.reduceAdd, Int.reduceSub, Int.reduceMul, Int.reduceEq, Int.reduceNe, Int.reduceLT, Int.reduceLE, Int.reduceGT, Int.reduceGE, h0, h3, h5, h6, h7, h13, h15, k, ans0]
            refine ⟨_, _, _, _, _, _, _, rfl, .inr ?_, rfl, by rw [hdo]; rfl, fun _ _ => rfl⟩
            rw [hget k (by omega)]
            exact hO
          · have ha0' := ha05 (by omega)
            subst ha0'
            have hdo : doA l op = if l = [] then ans0 else ⟨0, true, l.getD 0 default, 0, []⟩ := by rw [doA, if_neg hok, if_neg (by omega), if_neg (by omega), if_pos k]
            have hget7 := hget k (by omega)
            simp -implicitDefEqProofs (maxSteps := 1000000) (disch := omega) only [↓xsP, ↓vc_seq, xsQ, xsT, xsR, xsD, ↓reduceIte, reduceCtorEq, eq_self, ne_eq, imp_self, forall_const, Nat.reduceEqDiff, Nat.reduceAdd, Nat.reduceSub, Nat.reduceMul, Nat.reduceLT, Nat.reduceLeDiff, Nat.reduceBEq, Nat.reduceDiv, Nat.reduceMod, Int.reduceToNat, Int.reduceNeg, Int.reduceAdd, Int.reduceSub, Int.reduceMul, Int.reduceEq, Int.reduceNe, Int.reduceLT, Int.reduceLE, Int.reduceGT, Int.reduceGE, h0, h3, h5, h6, h7, h13, h15, k, ans0]
            refine condI_prop (fun hp => ?_) (fun hp => ?_)
            · have hl0 : ¬ l = [] := fun e => by subst e; simp at hp
              have hpos : 0 < l.length := by omega
              rw [if_neg hl0] at hdo
              simp -implicitDefEqProofs (maxSteps := 1000000) (disch := omega) only [↓xsP, ↓vc_seq, xsQ, xsT, xsR, xsD, ↓reduceIte, reduceCtorEq, eq_self, ne_eq, imp_self, forall_const, Nat.reduceEqDiff, Nat.reduceAdd, Nat.reduceSub, Nat.reduceMul, Nat.reduceLT, Nat.reduceLeDiff, Nat.reduceBEq, Nat.reduceDiv, Nat.reduceMod, Int.reduceToNat, Int.reduceNeg, Int.reduceAdd, Int.reduceSub, Int.reduceMul, Int.reduceEq, Int.reduceNe, Int.reduceLT, Int.reduceLE, Int.reduceGT, Int.reduceGE, h0, h3, h5, h6, h7, h13, h15, k, ans0]
              exact ⟨_, _, _, _, _, _, _, rfl, .inr (by rw [hget7]; exact hO), rfl, by rw [hdo]; rfl, fun _ _ => rfl⟩
            · have hl0 : l = [] := List.eq_nil_of_length_eq_zero (by omega)
              rw [if_pos hl0] at hdo
              simp -implicitDefEqProofs (maxSteps := 1000000) (disch := omega) only [↓xsP, ↓vc_seq, xsQ, xsT, xsR, xsD, ↓reduceIte, reduceCtorEq, eq_self, ne_eq, imp_self, forall_const, Nat.reduceEqDiff, Nat.reduceAdd, Nat.reduceSub, Nat.reduceMul, Nat.reduceLT, Nat.reduceLeDiff, Nat.reduceBEq, Nat.reduceDiv, Nat.reduceMod, Int.reduceToNat, Int.reduceNeg, Int.reduceAdd, Int.reduceSub, Int.reduceMul, Int.reduceEq, Int.reduceNe, Int.reduceLT, Int.reduceLE, Int.reduceGT, Int.reduceGE, h0, h3, h5, h6, h7, h13, h15, k, ans0]
              exact ⟨_, _, _, _, _, _, _, rfl, .inr (by rw [hget7]; exact hO), rfl, by rw [hdo]; rfl, fun _ _ => rfl⟩
          · have ha0' := ha05 (by omega)
            subst ha0'
            have hdo : doA l op = if l = [] then ans0 else ⟨0, true, l.getD (l.length - 1) default, 0, []⟩ := by rw [doA, if_neg hok, if_neg (by omega), if_neg (by omega), if_neg (by omega), if_pos k]
            have hget7 := hget k (by omega)
            simp -implicitDefEqProofs (maxSteps := 1000000) (disch := omega) only [↓xsP, ↓vc_seq, xsQ, xsT, xsR, xsD, ↓reduceIte, reduceCtorEq, eq_self, ne_eq, imp_self, forall_const, Nat.reduceEqDiff, Nat.reduceAdd, Nat.reduceSub, Nat.reduceMul, Nat.reduceLT, Nat.reduceLeDiff, Nat.reduceBEq, Nat.reduceDiv, Nat.reduceMod, Int.reduceToNat, Int.reduceNeg, Int.reduceAdd, Int.reduceSub, Int.reduceMul, Int.reduceEq, Int.reduceNe, Int.reduceLT, Int.reduceLE, Int.reduceGT, Int.reduceGE, h0, h3, h5, h6, h7, h13, h15, k, ans0]
            refine condI_prop (fun hp => ?_) (fun hp => ?_)
            · have hl0 : ¬ l = [] := fun e => by subst e; simp at hp
              have hpos : 0 < l.length := by omega
              rw [if_neg hl0] at hdo
              simp -implicitDefEqProofs (maxSteps := 1000000) (disch := omega) only [↓xsP, ↓vc_seq, xsQ, xsT, xsR, xsD, ↓reduceIte, reduceCtorEq, eq_self, ne_eq, imp_self, forall_const, Nat.reduceEqDiff, Nat.reduceAdd, Nat.reduceSub, Nat.reduceMul, Nat.reduceLT, Nat.reduceLeDiff, Nat.reduceBEq, Nat.reduceDiv, Nat.reduceMod, Int.reduceToNat, Int.reduceNeg, Int.reduceAdd, Int.reduceSub, Int.reduceMul, Int.reduceEq, Int.reduceNe, Int.reduceLT, Int.reduceLE, Int.reduceGT, Int.reduceGE, h0, h3, h5, h6, h7, h13, h15, k, ans0]
              exact ⟨_, _, _, _, _, _, _, rfl, .inr (by rw [hget7]; exact hO), rfl, by rw [hdo]; rfl, fun _ _ => rfl⟩
            · have hl0 : l = [] := List.eq_nil_of_length_eq_zero (by omega)
              rw [if_pos hl0] at hdo
              simp -implicitDefEqProofs (maxSteps := 1000000) (disch := omega) only [↓xsP, ↓vc_seq, xsQ, xsT, xsR, xsD, ↓reduceIte, reduceCtorEq, eq_self, ne_eq, imp_self, forall_const, Nat.reduceEqDiff, Nat.reduceAdd, Nat.reduceSub, Nat.reduceMul, Nat.reduceLT, Nat.reduceLeDiff, Nat.reduceBEq, Nat.reduceDiv, Nat.reduceMod, Int.reduceToNat, Int.reduceNeg, Int.reduceAdd, Int.reduceSub, Int.reduceMul, Int.reduceEq, Int.reduceNe, Int.reduceLT, Int.reduceLE, Int.reduceGT, Int.reduceGE, h0, h3, h5, h6, h7, h13, h15, k, ans0]
              exact ⟨_, _, _, _, _, _, _, rfl, .inr (by rw [hget7]; exact hO), rfl, by rw [hdo]; rfl, fun _ _ => rfl⟩
        · clear h0 h3 h5 h6 h7
          rintro fr N' ⟨h5, h7, s, a, b, c, d, e, f, h6, hQ, rfl, hw, hf⟩
          simp -implicitDefEqProofs (maxSteps := 1000000) (disch := omega) only [↓xsP, ↓vc_seq, xsQ, xsT, xsR, xsD, ↓reduceIte, reduceCtorEq, eq_self, ne_eq, imp_self, forall_const, Nat.reduceEqDiff, Nat.reduceAdd, Nat.reduceSub, Nat.reduceMul, Nat.reduceLT, Nat.reduceLeDiff, Nat.reduceBEq, Nat.reduceDiv, Nat.reduceMod, Int.reduceToNat, Int.reduceNeg, Int.reduceAdd, Int.reduceSub, Int.reduceMul, Int.reduceEq, Int.reduceNe, Int.reduceLT, Int.reduceLE, Int.reduceGT, Int.reduceGE, h5, h6, h7]
          refine xwrite (fun n0 => [ (3, p5)]) [3] [] [[], [], [], []] (by kernel_rfl) (by kernel_rfl) (by kernel_rfl) (by kernel_rfl) (fun n0 hn0 => ⟨rfl, ?_, ?_⟩)
          · exact TOk_cons (.inl (lt_of_bnd hn0 (hle7 _ _ _ h15))) (TOk_nil _ _)
          · have h5n := lt_of_bnd hn0 (hle7 _ _ _ h15)
            have h7n := lt_of_bnd hn0 (Mem.set_eq _ p7 _)
            simp -implicitDefEqProofs (maxSteps := 1000000) (disch := omega) only [↓xsP, ↓vc_seq, xsQ, xsT, xsR, xsD, ↓reduceIte, reduceCtorEq, eq_self, ne_eq, imp_self, forall_const, Nat.reduceEqDiff, Nat.reduceAdd, Nat.reduceSub, Nat.reduceMul, Nat.reduceLT, Nat.reduceLeDiff, Nat.reduceBEq, Nat.reduceDiv, Nat.reduceMod, Int.reduceToNat, Int.reduceNeg, Int.reduceAdd, Int.reduceSub, Int.reduceMul, Int.reduceEq, Int.reduceNe, Int.reduceLT, Int.reduceLE, Int.reduceGT, Int.reduceGE, h5, h6, h7, h15]
            refine finI_outQ p5 hQ (fun k bk hk hh => ?_) hM5 hMN (hp5 _ (Nat.le_refl _)) hN1 hf ⟨?_, rfl⟩
            · rw [Mem.set_ne _ _ _ _ (Ne.symm hk)]
              exact hle7 _ _ _ hh
            · rw [hw]
              rfl
end Go.X

/- Slices of pairs that may be nil; maps as the reference makes them. -/

set_option linter.unusedVariables false
set_option linter.unusedSimpArgs false
set_option maxHeartbeats 20000000
set_option maxRecDepth 100000
namespace Go.X
open Go.Proofs.Try (prog)

/-- A slice of pairs that may be nil. -/
def IsL (x : Lf) (s : List Pr) : Prop := x = .sl (s.map Pr.row) ∨ s = [] ∧ x = .nils
theorem IsL.sl (s : List Pr) : IsL (.sl (s.map Pr.row)) s := .inl rfl
theorem samePairs_is {x y : Lf} {l m : List Pr} (hx : IsL x l) (hy : IsL y m) (hl : l.length ≤ 4611686018427387904) (M : Mem) : XCalls Go.Proofs.Try.prog 24 [.l x, .l y] M fun r M' => r = .l (.bool (bof (l = m))) ∧ M' = M := by
  rcases hx with rfl | ⟨rfl, rfl⟩
  · rcases hy with rfl | ⟨rfl, rfl⟩
    · exact samePairs_spec l m hl M
    · exact XCalls.wk (samePairs_spec l [] hl M)
  · rcases hy with rfl | ⟨rfl, rfl⟩
    · have := XCalls.wk (args := [.l .nils, .l (.sl (m.map Pr.row))]) (samePairs_spec [] m hl M)
      exact this
    · exact XCalls.wk (samePairs_spec [] [] hl M)
theorem withR_is {x : Lf} {l : List Pr} (hx : IsL x l) (hl : l.length ≤ 1000000) (p : Pr) (M : Mem) : XCalls Go.Proofs.Try.prog 20 [.l x, .agg p.row] M fun r M' => r = .l (.sl ((withR l p).map Pr.row)) ∧ M' = M := by
  rcases hx with rfl | ⟨rfl, rfl⟩
  · exact withR_spec l hl p M
  · exact XCalls.wk (withR_spec [] hl p M)
theorem doR_is {x : Lf} {l : List Pr} (hx : IsL x l) (hl : l.length ≤ 1000000) (op : Opn) (M : Mem) : XCalls Go.Proofs.Try.prog 23 [.l x, .agg op.row] M fun r M' => r = .tup [.l (.sl ((doL l op).map Pr.row)), .agg (doA l op).row] ∧ M' = M := by
  rcases hx with rfl | ⟨rfl, rfl⟩
  · exact doR_spec l hl op M
  · exact XCalls.wk (doR_spec [] hl op M)
theorem putL_withR' {l : List Pr} {i : Nat} (hi : i < l.length) : putL (l.take (i + 1)) = withR (putL (l.take i)) (l.getD i default) := by
  have hP := putL_asc (l.take i)
  rw [putL_take l hi, withR_eq hP, doL_upd hP (by simp [mayOpB, putOp]) (by simp [putOp]), oneL, if_pos (.inl rfl)]
  rfl
end Go.X

/- More arguments: ints. -/

set_option linter.unusedVariables false
set_option linter.unusedSimpArgs false
set_option maxRecDepth 100000
namespace Go.X
open Go.Proofs.Try (prog)
open Go.RowKit Go.ChangeShapes Go.WideShapes Go.ChangeAt

theorem o_ints : Opens Go.Proofs.Try.prog 39 fun ls => ∃ ps : List Int, ls = [.sl (ps.map irow)] ∧ ps.length ≤ big ∧ ∀ p ∈ ps, IntOk p := by
  refine (opens_slice (by kernel_rfl) ((o_ir (t := 3) (by kernel_rfl)).mono fun ls ⟨n, h1, h2⟩ => (⟨n, h1, h2⟩ : ∃ n : Int, ls = irow n ∧ IntOk n)) (of_decide_eq_true (by kernel_rfl))).mono ?_
  rintro ls ⟨rows, rfl, hr, hb⟩
  obtain ⟨ps, rfl, h2⟩ := rows_map hr
  exact ⟨ps, rfl, by simpa using len_of (of_decide_eq_true (by kernel_rfl)) hb, h2⟩
section
variable {H : Type} {enc : TypeId × Value → H} {W : World} {base : Nat} {v : Value} {d : DataW H} {p : List MemPlace}
theorem arg_ints (hok : Value.okWide Go.Proofs.Try.prog W .any base 39 v) (h : DataW.Trod enc Go.Proofs.Try.prog W 0 (fun _ => true) true 39 v d p) (hw : ∀ n ∈ d.weights Go.Proofs.Try.prog 39, n ≤ reachBytes) :
    ∃ l : List Int, ConcA (g0 Go.Proofs.Try.prog W) W (.l (.sl (l.map irow))) v ∧ l.length ≤ big ∧ ∀ p ∈ l, IntOk p := by
  obtain ⟨x, h1, l, rfl, h2⟩ := arg_l (R := fun x => ∃ h : List Int, x = .sl (h.map irow) ∧ h.length ≤ big ∧ ∀ p ∈ h, IntOk p) (e := 3) (by kernel_rfl) (o_ints.mono fun ls ⟨l, h3, h4⟩ => ⟨_, h3, l, rfl, h4⟩) hok h hw
  exact ⟨l, h1, h2⟩
end
end Go.X

/- Orders: which calls an order names; whether it is timely. -/


set_option linter.unusedVariables false
set_option linter.unusedSimpArgs false
set_option maxHeartbeats 20000000
set_option maxRecDepth 100000
namespace Go.X
open Go.Proofs.Try (prog)

noncomputable def namedB (C : List Cl) (l : List Int) : Bool := bof ((∀ x ∈ l, 0 ≤ x ∧ x < C.length) ∧ l.Nodup ∧ ∀ j, j < C.length → 0 ≤ (C.getD j default).fin → ((j : Int) ∈ l ↔ (C.getD j default).ans.err = 0))
theorem take_sc {α : Type} (l : List α) (d : α) {i : Nat} (hi : i < l.length) : l.take (i + 1) = l.take i ++ [l.getD i d] := by
  rw [List.take_add_one, List.getD_eq_getElem?_getD, List.getElem?_eq_getElem hi]
  rfl
theorem getD_mem' {α : Type} (l : List α) (d : α) {i : Nat} (hi : i < l.length) : l.getD i d ∈ l := by
  rw [List.getD_eq_getElem?_getD, List.getElem?_eq_getElem hi]
  exact List.getElem_mem hi
theorem split_at' {α : Type} (l : List α) (d : α) {i : Nat} (hi : i < l.length) : l = l.take i ++ l.getD i d :: l.drop (i + 1) := by
  conv => lhs; rw [← List.take_append_drop i l]
  rw [List.drop_eq_getElem_cons hi, List.getD_eq_getElem?_getD, List.getElem?_eq_getElem hi]
  rfl
theorem nodup_at {l : List Int} {i : Nat} (hi : i < l.length) (h : l.getD i default ∈ l.take i) : ¬ l.Nodup := by
  intro hn
  rw [split_at' l default hi, List.nodup_append] at hn
  exact hn.2.2 _ h _ (by simp) rfl
theorem named_bad {C : List Cl} {l : List Int} {i : Nat} (hi : i < l.length) (h : l.getD i default < 0 ∨ (C.length : Int) ≤ l.getD i default ∨ l.getD i default ∈ l.take i) : namedB C l = false := by
  refine bof_false ?_
  rintro ⟨h1, h2, -⟩
  have := h1 _ (getD_mem' l default hi)
  rcases h with h | h | h
  · omega
  · omega
  · exact nodup_at hi h h2
theorem i_set (P : List Int) (k : Nat) (v : Int) : (P.map irow).set k [.int .i64 v] = (P.set k v).map irow := by rw [List.map_set]; rfl
theorem rows_i (P : List Int) : ∀ r ∈ P.map irow, r.length = 1 := by
  intro r hr
  obtain ⟨x, -, rfl⟩ := List.mem_map.1 hr
  rfl
theorem i_get (P : List Int) {k : Nat} (hk : k < P.length) : (P.map irow)[k]? = some [.int .i64 (P.getD k 0)] := by
  rw [List.getElem?_map, List.getElem?_eq_getElem hk, List.getD_eq_getElem?_getD, List.getElem?_eq_getElem hk]
  rfl
theorem named_spec (C : List Cl) (l : List Int) (hC : C.length ≤ 1000) (hl : l.length ≤ 1000) (M : Mem) :
    XCalls Go.Proofs.Try.prog 59 [.l (.sl (C.map Cl.row)), .l (.sl (l.map irow))] M fun r M' => (∃ s, r = .tup [.l s, .l (.bool (namedB C l))]) ∧ M' = M := by
  refine xcalls_intro (rs := [.tmp 4, .tmp 5]) Go.Proofs.Try.func59 rfl (by kernel_rfl) rfl rfl (by kernel_rfl) (by simp) ?_
  have q0 : (0 ≤ (C.length : Int) ∧ (8 : Int) * (C.length : Int) ≤ 281474976710656 ∧ (C.length : Int) ≤ 9223372036854775807) = True := eq_true (by omega)
  simp -implicitDefEqProofs (maxSteps := 1000000) (disch := omega) only [↓xsP, ↓vc_seq, xsQ, xsT, xsR, xsD, ↓reduceIte, reduceCtorEq, eq_self, ne_eq, imp_self, forall_const, Nat.reduceEqDiff, Nat.reduceAdd, Nat.reduceSub, Nat.reduceMul, Nat.reduceLT, Nat.reduceLeDiff, Nat.reduceBEq, Nat.reduceDiv, Nat.reduceMod, Int.reduceToNat, Int.reduceNeg, Int.reduceAdd, Int.reduceSub, Int.reduceMul, Int.reduceEq, Int.reduceNe, Int.reduceLT, Int.reduceLE, Int.reduceGT, Int.reduceGE]
  rw [if_pos (by omega)]
  simp -implicitDefEqProofs (maxSteps := 1000000) (disch := omega) only [↓xsP, ↓vc_seq, xsQ, xsT, xsR, xsD, ↓reduceIte, reduceCtorEq, eq_self, ne_eq, imp_self, forall_const, Nat.reduceEqDiff, Nat.reduceAdd, Nat.reduceSub, Nat.reduceMul, Nat.reduceLT, Nat.reduceLeDiff, Nat.reduceBEq, Nat.reduceDiv, Nat.reduceMod, Int.reduceToNat, Int.reduceNeg, Int.reduceAdd, Int.reduceSub, Int.reduceMul, Int.reduceEq, Int.reduceNe, Int.reduceLT, Int.reduceLE, Int.reduceGT, Int.reduceGE]
  refine newI_intro fun id hid => ?_
  simp -implicitDefEqProofs (maxSteps := 1000000) (disch := omega) only [↓xsP, ↓vc_seq, xsQ, xsT, xsR, xsD, ↓reduceIte, reduceCtorEq, eq_self, ne_eq, imp_self, forall_const, Nat.reduceEqDiff, Nat.reduceAdd, Nat.reduceSub, Nat.reduceMul, Nat.reduceLT, Nat.reduceLeDiff, Nat.reduceBEq, Nat.reduceDiv, Nat.reduceMod, Int.reduceToNat, Int.reduceNeg, Int.reduceAdd, Int.reduceSub, Int.reduceMul, Int.reduceEq, Int.reduceNe, Int.reduceLT, Int.reduceLE, Int.reduceGT, Int.reduceGE]
  refine loopI_of (xloop (by kernel_rfl) (fun k fr M' => ∃ (i : Nat) (P : List Int), i ≤ C.length ∧ k = C.length - i ∧ fr 0 = .l (.sl (C.map Cl.row)) ∧ fr 1 = .l (.sl (l.map irow)) ∧ fr 6 = .l (.ms id 0 C.length) ∧ fr 17 = .l (.int .i64 C.length) ∧ fr 18 = .l (.int .i64 i) ∧
    M' = M.set id (.cells 3 (P.map irow) 0) ∧ P.length = C.length ∧ ∀ j, j < i → P.getD j 0 < 0) C.length ?_ ?_)
  · exact ⟨0, List.replicate C.length 0, Nat.zero_le _, rfl, by simp -implicitDefEqProofs (maxSteps := 1000000) (disch := omega) only [↓xsP, ↓vc_seq, xsQ, xsT, xsR, xsD, ↓reduceIte, reduceCtorEq, eq_self, ne_eq, imp_self, forall_const, Nat.reduceEqDiff, Nat.reduceAdd, Nat.reduceSub, Nat.reduceMul, Nat.reduceLT, Nat.reduceLeDiff, Nat.reduceBEq, Nat.reduceDiv, Nat.reduceMod, Int.reduceToNat, Int.reduceNeg, Int.reduceAdd, Int.reduceSub, Int.reduceMul, Int.reduceEq, Int.reduceNe, Int.reduceLT, Int.reduceLE, Int.reduceGT, Int.reduceGE], by simp -implicitDefEqProofs (maxSteps := 1000000) (disch := omega) only [↓xsP, ↓vc_seq, xsQ, xsT, xsR, xsD, ↓reduceIte, reduceCtorEq, eq_self, ne_eq, imp_self, forall_const, Nat.reduceEqDiff, Nat.reduceAdd, Nat.reduceSub, Nat.reduceMul, Nat.reduceLT, Nat.reduceLeDiff, Nat.reduceBEq, Nat.reduceDiv, Nat.reduceMod, Int.reduceToNat, Int.reduceNeg, Int.reduceAdd, Int.reduceSub, Int.reduceMul, Int.reduceEq, Int.reduceNe, Int.reduceLT, Int.reduceLE, Int.reduceGT, Int.reduceGE], by simp -implicitDefEqProofs (maxSteps := 1000000) (disch := omega) only [↓xsP, ↓vc_seq, xsQ, xsT, xsR, xsD, ↓reduceIte, reduceCtorEq, eq_self, ne_eq, imp_self, forall_const, Nat.reduceEqDiff, Nat.reduceAdd, Nat.reduceSub, Nat.reduceMul, Nat.reduceLT, Nat.reduceLeDiff, Nat.reduceBEq, Nat.reduceDiv, Nat.reduceMod, Int.reduceToNat, Int.reduceNeg, Int.reduceAdd, Int.reduceSub, Int.reduceMul, Int.reduceEq, Int.reduceNe, Int.reduceLT, Int.reduceLE, Int.reduceGT, Int.reduceGE, List.length_replicate], by simp -implicitDefEqProofs (maxSteps := 1000000) (disch := omega) only [↓xsP, ↓vc_seq, xsQ, xsT, xsR, xsD, ↓reduceIte, reduceCtorEq, eq_self, ne_eq, imp_self, forall_const, Nat.reduceEqDiff, Nat.reduceAdd, Nat.reduceSub, Nat.reduceMul, Nat.reduceLT, Nat.reduceLeDiff, Nat.reduceBEq, Nat.reduceDiv, Nat.reduceMod, Int.reduceToNat, Int.reduceNeg, Int.reduceAdd, Int.reduceSub, Int.reduceMul, Int.reduceEq, Int.reduceNe, Int.reduceLT, Int.reduceLE, Int.reduceGT, Int.reduceGE, List.length_replicate], by simp -implicitDefEqProofs (maxSteps := 1000000) (disch := omega) only [↓xsP, ↓vc_seq, xsQ, xsT, xsR, xsD, ↓reduceIte, reduceCtorEq, eq_self, ne_eq, imp_self, forall_const, Nat.reduceEqDiff, Nat.reduceAdd, Nat.reduceSub, Nat.reduceMul, Nat.reduceLT, Nat.reduceLeDiff, Nat.reduceBEq, Nat.reduceDiv, Nat.reduceMod, Int.reduceToNat, Int.reduceNeg, Int.reduceAdd, Int.reduceSub, Int.reduceMul, Int.reduceEq, Int.reduceNe, Int.reduceLT, Int.reduceLE, Int.reduceGT, Int.reduceGE, Int.cast_ofNat_Int], by rw [List.map_replicate]; rfl, by simp, fun j hj => by omega⟩
  · rintro k fr M' ⟨i, P, hi, rfl, h0, h1, h6, h17, h18, hM', hP, hneg⟩
    have hMi : M' id = some (.cells 3 (P.map irow) 0) := by rw [hM']; exact Mem.set_eq _ _ _
    simp -implicitDefEqProofs (maxSteps := 1000000) (disch := omega) only [↓xsP, ↓vc_seq, xsQ, xsT, xsR, xsD, ↓reduceIte, reduceCtorEq, eq_self, ne_eq, imp_self, forall_const, Nat.reduceEqDiff, Nat.reduceAdd, Nat.reduceSub, Nat.reduceMul, Nat.reduceLT, Nat.reduceLeDiff, Nat.reduceBEq, Nat.reduceDiv, Nat.reduceMod, Int.reduceToNat, Int.reduceNeg, Int.reduceAdd, Int.reduceSub, Int.reduceMul, Int.reduceEq, Int.reduceNe, Int.reduceLT, Int.reduceLE, Int.reduceGT, Int.reduceGE, h0, h1, h6, h17, h18]
    refine condI_prop (fun hlt => ?_) (fun hlt => ?_)
    · simp -implicitDefEqProofs (maxSteps := 1000000) (disch := omega) only [↓xsP, ↓vc_seq, xsQ, xsT, xsR, xsD, ↓reduceIte, reduceCtorEq, eq_self, ne_eq, imp_self, forall_const, Nat.reduceEqDiff, Nat.reduceAdd, Nat.reduceSub, Nat.reduceMul, Nat.reduceLT, Nat.reduceLeDiff, Nat.reduceBEq, Nat.reduceDiv, Nat.reduceMod, Int.reduceToNat, Int.reduceNeg, Int.reduceAdd, Int.reduceSub, Int.reduceMul, Int.reduceEq, Int.reduceNe, Int.reduceLT, Int.reduceLE, Int.reduceGT, Int.reduceGE, h0, h1, h6, h17, h18, hMi]
      refine ⟨C.length - (i + 1), _, by omega, Mem.le_refl _, i + 1, P.set i (-1), by omega, rfl, rfl, ?_, by simp [hP], fun j hj => ?_⟩
      · rw [hM', i_set, Mem.set_set]
      · rw [getD_set _ _ _ _ _ (by omega)]
        split
        · omega
        · exact hneg j (by omega)
    · simp -implicitDefEqProofs (maxSteps := 1000000) (disch := omega) only [↓xsP, ↓vc_seq, xsQ, xsT, xsR, xsD, ↓reduceIte, reduceCtorEq, eq_self, ne_eq, imp_self, forall_const, Nat.reduceEqDiff, Nat.reduceAdd, Nat.reduceSub, Nat.reduceMul, Nat.reduceLT, Nat.reduceLeDiff, Nat.reduceBEq, Nat.reduceDiv, Nat.reduceMod, Int.reduceToNat, Int.reduceNeg, Int.reduceAdd, Int.reduceSub, Int.reduceMul, Int.reduceEq, Int.reduceNe, Int.reduceLT, Int.reduceLE, Int.reduceGT, Int.reduceGE, h0, h1, h6, h17, h18]
      have hneg' : ∀ j, j < C.length → P.getD j 0 < 0 := fun j hj => hneg j (by omega)
      refine loopI_of (xloop (by kernel_rfl) (fun k fr M' => ∃ (i : Nat) (P : List Int), i ≤ l.length ∧ k = l.length - i ∧ fr 0 = .l (.sl (C.map Cl.row)) ∧ fr 6 = .l (.ms id 0 C.length) ∧ fr 25 = .l (.sl (l.map irow)) ∧ fr 26 = .l (.int .i64 l.length) ∧ fr 27 = .l (.int .i64 i) ∧
        M' = M.set id (.cells 3 (P.map irow) 0) ∧ P.length = C.length ∧ (∀ x ∈ l.take i, 0 ≤ x ∧ x < C.length) ∧ (l.take i).Nodup ∧ ∀ j, j < C.length → (0 ≤ P.getD j 0 ↔ (j : Int) ∈ l.take i)) l.length ?_ ?_)
      · exact ⟨0, P, Nat.zero_le _, rfl, by simp -implicitDefEqProofs (maxSteps := 1000000) (disch := omega) only [↓xsP, ↓vc_seq, xsQ, xsT, xsR, xsD, ↓reduceIte, reduceCtorEq, eq_self, ne_eq, imp_self, forall_const, Nat.reduceEqDiff, Nat.reduceAdd, Nat.reduceSub, Nat.reduceMul, Nat.reduceLT, Nat.reduceLeDiff, Nat.reduceBEq, Nat.reduceDiv, Nat.reduceMod, Int.reduceToNat, Int.reduceNeg, Int.reduceAdd, Int.reduceSub, Int.reduceMul, Int.reduceEq, Int.reduceNe, Int.reduceLT, Int.reduceLE, Int.reduceGT, Int.reduceGE, h0], by simp -implicitDefEqProofs (maxSteps := 1000000) (disch := omega) only [↓xsP, ↓vc_seq, xsQ, xsT, xsR, xsD, ↓reduceIte, reduceCtorEq, eq_self, ne_eq, imp_self, forall_const, Nat.reduceEqDiff, Nat.reduceAdd, Nat.reduceSub, Nat.reduceMul, Nat.reduceLT, Nat.reduceLeDiff, Nat.reduceBEq, Nat.reduceDiv, Nat.reduceMod, Int.reduceToNat, Int.reduceNeg, Int.reduceAdd, Int.reduceSub, Int.reduceMul, Int.reduceEq, Int.reduceNe, Int.reduceLT, Int.reduceLE, Int.reduceGT, Int.reduceGE, h6], by simp -implicitDefEqProofs (maxSteps := 1000000) (disch := omega) only [↓xsP, ↓vc_seq, xsQ, xsT, xsR, xsD, ↓reduceIte, reduceCtorEq, eq_self, ne_eq, imp_self, forall_const, Nat.reduceEqDiff, Nat.reduceAdd, Nat.reduceSub, Nat.reduceMul, Nat.reduceLT, Nat.reduceLeDiff, Nat.reduceBEq, Nat.reduceDiv, Nat.reduceMod, Int.reduceToNat, Int.reduceNeg, Int.reduceAdd, Int.reduceSub, Int.reduceMul, Int.reduceEq, Int.reduceNe, Int.reduceLT, Int.reduceLE, Int.reduceGT, Int.reduceGE, h1], by simp -implicitDefEqProofs (maxSteps := 1000000) (disch := omega) only [↓xsP, ↓vc_seq, xsQ, xsT, xsR, xsD, ↓reduceIte, reduceCtorEq, eq_self, ne_eq, imp_self, forall_const, Nat.reduceEqDiff, Nat.reduceAdd, Nat.reduceSub, Nat.reduceMul, Nat.reduceLT, Nat.reduceLeDiff, Nat.reduceBEq, Nat.reduceDiv, Nat.reduceMod, Int.reduceToNat, Int.reduceNeg, Int.reduceAdd, Int.reduceSub, Int.reduceMul, Int.reduceEq, Int.reduceNe, Int.reduceLT, Int.reduceLE, Int.reduceGT, Int.reduceGE], by simp -implicitDefEqProofs (maxSteps := 1000000) (disch := omega) only [↓xsP, ↓vc_seq, xsQ, xsT, xsR, xsD, ↓reduceIte, reduceCtorEq, eq_self, ne_eq, imp_self, forall_const, Nat.reduceEqDiff, Nat.reduceAdd, Nat.reduceSub, Nat.reduceMul, Nat.reduceLT, Nat.reduceLeDiff, Nat.reduceBEq, Nat.reduceDiv, Nat.reduceMod, Int.reduceToNat, Int.reduceNeg, Int.reduceAdd, Int.reduceSub, Int.reduceMul, Int.reduceEq, Int.reduceNe, Int.reduceLT, Int.reduceLE, Int.reduceGT, Int.reduceGE, Int.cast_ofNat_Int], hM', hP, by simp, by simp, fun j hj => ⟨fun h => absurd h (by have := hneg' j hj; omega), fun h => by simp at h⟩⟩
      · clear hneg hneg' hMi h0 h1 h6 h17 h18 hM' hP hi hlt
        rintro k fr M' ⟨i, P, hi, rfl, h0, h6, h25, h26, h27, hM', hP, hin, hnd, hpl⟩
        have hMi : M' id = some (.cells 3 (P.map irow) 0) := by rw [hM']; exact Mem.set_eq _ _ _
        simp -implicitDefEqProofs (maxSteps := 1000000) (disch := omega) only [↓xsP, ↓vc_seq, xsQ, xsT, xsR, xsD, ↓reduceIte, reduceCtorEq, eq_self, ne_eq, imp_self, forall_const, Nat.reduceEqDiff, Nat.reduceAdd, Nat.reduceSub, Nat.reduceMul, Nat.reduceLT, Nat.reduceLeDiff, Nat.reduceBEq, Nat.reduceDiv, Nat.reduceMod, Int.reduceToNat, Int.reduceNeg, Int.reduceAdd, Int.reduceSub, Int.reduceMul, Int.reduceEq, Int.reduceNe, Int.reduceLT, Int.reduceLE, Int.reduceGT, Int.reduceGE, h0, h6, h25, h26, h27]
        refine condI_prop (fun hlt => ?_) (fun hlt => ?_)
        · simp -implicitDefEqProofs (maxSteps := 1000000) (disch := omega) only [↓xsP, ↓vc_seq, xsQ, xsT, xsR, xsD, ↓reduceIte, reduceCtorEq, eq_self, ne_eq, imp_self, forall_const, Nat.reduceEqDiff, Nat.reduceAdd, Nat.reduceSub, Nat.reduceMul, Nat.reduceLT, Nat.reduceLeDiff, Nat.reduceBEq, Nat.reduceDiv, Nat.reduceMod, Int.reduceToNat, Int.reduceNeg, Int.reduceAdd, Int.reduceSub, Int.reduceMul, Int.reduceEq, Int.reduceNe, Int.reduceLT, Int.reduceLE, Int.reduceGT, Int.reduceGE, h0, h6, h25, h26, h27]
          have hil : i < l.length := by omega
          have hsc := take_sc l default hil
          have hle : ∀ b : Blk, M.le (M'.set id b) := fun b => by rw [hM', Mem.set_set]; exact le_new (Mem.le_refl _) hid
          have hleM : M.le M' := by rw [hM']; exact le_new (Mem.le_refl _) hid
          have hbad : ∀ s : Lf, (l.getD i default < 0 ∨ (C.length : Int) ≤ l.getD i default ∨ l.getD i default ∈ l.take i) → @finI prog (.tup [.l s, .l (.bool false)]) M' ⟨fun r M' => (∃ s, r = .tup [.l s, .l (.bool (namedB C l))]) ∧ M' = M⟩ := fun s h =>
            fin_ok hleM ⟨⟨s, by rw [named_bad hil h]⟩, rfl⟩
          generalize hx : l.getD i default = x at hsc hbad ⊢
          refine gI_prop_f (fun hx1 => ?_) (fun hx1 => ?_)
          · simp -implicitDefEqProofs (maxSteps := 1000000) (disch := omega) only [↓xsP, ↓vc_seq, xsQ, xsT, xsR, xsD, ↓reduceIte, reduceCtorEq, eq_self, ne_eq, imp_self, forall_const, Nat.reduceEqDiff, Nat.reduceAdd, Nat.reduceSub, Nat.reduceMul, Nat.reduceLT, Nat.reduceLeDiff, Nat.reduceBEq, Nat.reduceDiv, Nat.reduceMod, Int.reduceToNat, Int.reduceNeg, Int.reduceAdd, Int.reduceSub, Int.reduceMul, Int.reduceEq, Int.reduceNe, Int.reduceLT, Int.reduceLE, Int.reduceGT, Int.reduceGE, h0, h6, h25, h26, h27, hx1]
            refine gI_prop_f (fun hx2 => ?_) (fun hx2 => ?_)
            · have hxn : x.toNat < C.length := by omega
              have hgx := i_get P (k := x.toNat) (by omega)
              have hxr : (0 ≤ x ∧ x < (C.length : Int)) = True := eq_true (by omega)
              simp -implicitDefEqProofs (maxSteps := 1000000) (disch := omega) only [↓xsP, ↓vc_seq, xsQ, xsT, xsR, xsD, ↓reduceIte, reduceCtorEq, eq_self, ne_eq, imp_self, forall_const, Nat.reduceEqDiff, Nat.reduceAdd, Nat.reduceSub, Nat.reduceMul, Nat.reduceLT, Nat.reduceLeDiff, Nat.reduceBEq, Nat.reduceDiv, Nat.reduceMod, Int.reduceToNat, Int.reduceNeg, Int.reduceAdd, Int.reduceSub, Int.reduceMul, Int.reduceEq, Int.reduceNe, Int.reduceLT, Int.reduceLE, Int.reduceGT, Int.reduceGE, h0, h6, h25, h26, h27, hx1, hx2, hMi, hxr, hgx]
              refine condI_prop (fun hx3 => ?_) (fun hx3 => ?_)
              · simp -implicitDefEqProofs (maxSteps := 1000000) (disch := omega) only [↓xsP, ↓vc_seq, xsQ, xsT, xsR, xsD, ↓reduceIte, reduceCtorEq, eq_self, ne_eq, imp_self, forall_const, Nat.reduceEqDiff, Nat.reduceAdd, Nat.reduceSub, Nat.reduceMul, Nat.reduceLT, Nat.reduceLeDiff, Nat.reduceBEq, Nat.reduceDiv, Nat.reduceMod, Int.reduceToNat, Int.reduceNeg, Int.reduceAdd, Int.reduceSub, Int.reduceMul, Int.reduceEq, Int.reduceNe, Int.reduceLT, Int.reduceLE, Int.reduceGT, Int.reduceGE, h0, h6, h25, h26, h27]
                exact hbad _ (.inr (.inr (by have := (hpl x.toNat hxn).1 hx3; rwa [Int.toNat_of_nonneg (by omega)] at this)))
              · have hxnm : x ∉ l.take i := fun h => hx3 ((hpl x.toNat hxn).2 (by rwa [Int.toNat_of_nonneg (by omega)]))
                simp -implicitDefEqProofs (maxSteps := 1000000) (disch := omega) only [↓xsP, ↓vc_seq, xsQ, xsT, xsR, xsD, ↓reduceIte, reduceCtorEq, eq_self, ne_eq, imp_self, forall_const, Nat.reduceEqDiff, Nat.reduceAdd, Nat.reduceSub, Nat.reduceMul, Nat.reduceLT, Nat.reduceLeDiff, Nat.reduceBEq, Nat.reduceDiv, Nat.reduceMod, Int.reduceToNat, Int.reduceNeg, Int.reduceAdd, Int.reduceSub, Int.reduceMul, Int.reduceEq, Int.reduceNe, Int.reduceLT, Int.reduceLE, Int.reduceGT, Int.reduceGE, h0, h6, h25, h26, h27, hMi, hxr]
                refine ⟨l.length - (i + 1), M.set id (.cells 3 ((P.set x.toNat i).map irow) 0), by omega, ?_, i + 1, P.set x.toNat i, by omega, rfl, by simp, rfl, by simp [hP], ?_, ?_, ?_⟩
                · rw [i_set, hM', Mem.set_set]
                  exact Mem.le_refl _
                · rw [hsc]
                  intro y hy
                  rcases List.mem_append.1 hy with hy | hy
                  · exact hin y hy
                  · rw [List.mem_singleton.1 hy]
                    omega
                · rw [hsc, List.nodup_append]
                  refine ⟨hnd, by simp, fun a ha b hb e => ?_⟩
                  rw [List.mem_singleton.1 hb] at e
                  exact hxnm (e ▸ ha)
                · intro j hj
                  rw [getD_set _ _ _ _ _ (by omega), hsc, List.mem_append, List.mem_singleton]
                  split
                  · rename_i e
                    exact ⟨fun _ => .inr (by omega), fun _ => by omega⟩
                  · rename_i e
                    rw [hpl j hj]
                    exact ⟨.inl, fun h => h.elim (fun h => h) fun h => absurd (show j = x.toNat by omega) e⟩
            · simp -implicitDefEqProofs (maxSteps := 1000000) (disch := omega) only [↓xsP, ↓vc_seq, xsQ, xsT, xsR, xsD, ↓reduceIte, reduceCtorEq, eq_self, ne_eq, imp_self, forall_const, Nat.reduceEqDiff, Nat.reduceAdd, Nat.reduceSub, Nat.reduceMul, Nat.reduceLT, Nat.reduceLeDiff, Nat.reduceBEq, Nat.reduceDiv, Nat.reduceMod, Int.reduceToNat, Int.reduceNeg, Int.reduceAdd, Int.reduceSub, Int.reduceMul, Int.reduceEq, Int.reduceNe, Int.reduceLT, Int.reduceLE, Int.reduceGT, Int.reduceGE, h0, h6, h25, h26, h27, hx1, hx2]
              exact hbad _ (.inr (.inl (by omega)))
          · simp -implicitDefEqProofs (maxSteps := 1000000) (disch := omega) only [↓xsP, ↓vc_seq, xsQ, xsT, xsR, xsD, ↓reduceIte, reduceCtorEq, eq_self, ne_eq, imp_self, forall_const, Nat.reduceEqDiff, Nat.reduceAdd, Nat.reduceSub, Nat.reduceMul, Nat.reduceLT, Nat.reduceLeDiff, Nat.reduceBEq, Nat.reduceDiv, Nat.reduceMod, Int.reduceToNat, Int.reduceNeg, Int.reduceAdd, Int.reduceSub, Int.reduceMul, Int.reduceEq, Int.reduceNe, Int.reduceLT, Int.reduceLE, Int.reduceGT, Int.reduceGE, h0, h6, h25, h26, h27, hx1]
            exact hbad _ (.inl hx1)
        · simp -implicitDefEqProofs (maxSteps := 1000000) (disch := omega) only [↓xsP, ↓vc_seq, xsQ, xsT, xsR, xsD, ↓reduceIte, reduceCtorEq, eq_self, ne_eq, imp_self, forall_const, Nat.reduceEqDiff, Nat.reduceAdd, Nat.reduceSub, Nat.reduceMul, Nat.reduceLT, Nat.reduceLeDiff, Nat.reduceBEq, Nat.reduceDiv, Nat.reduceMod, Int.reduceToNat, Int.reduceNeg, Int.reduceAdd, Int.reduceSub, Int.reduceMul, Int.reduceEq, Int.reduceNe, Int.reduceLT, Int.reduceLE, Int.reduceGT, Int.reduceGE, h0, h6, h25, h26, h27]
          have hil : i = l.length := by omega
          rw [hil, List.take_of_length_le (Nat.le_refl _)] at hin hnd hpl
          refine loopI_of (xloop (by kernel_rfl) (fun k fr M' => ∃ i : Nat, i ≤ C.length ∧ k = C.length - i ∧ fr 6 = .l (.ms id 0 C.length) ∧ fr 52 = .l (.sl (C.map Cl.row)) ∧ fr 53 = .l (.int .i64 C.length) ∧ fr 54 = .l (.int .i64 i) ∧
            M' = M.set id (.cells 3 (P.map irow) 0) ∧ ∀ j, j < i → 0 ≤ (C.getD j default).fin → ((j : Int) ∈ l ↔ (C.getD j default).ans.err = 0)) C.length ?_ ?_)
          · exact ⟨0, Nat.zero_le _, rfl, by simp -implicitDefEqProofs (maxSteps := 1000000) (disch := omega) only [↓xsP, ↓vc_seq, xsQ, xsT, xsR, xsD, ↓reduceIte, reduceCtorEq, eq_self, ne_eq, imp_self, forall_const, Nat.reduceEqDiff, Nat.reduceAdd, Nat.reduceSub, Nat.reduceMul, Nat.reduceLT, Nat.reduceLeDiff, Nat.reduceBEq, Nat.reduceDiv, Nat.reduceMod, Int.reduceToNat, Int.reduceNeg, Int.reduceAdd, Int.reduceSub, Int.reduceMul, Int.reduceEq, Int.reduceNe, Int.reduceLT, Int.reduceLE, Int.reduceGT, Int.reduceGE, h6], by simp -implicitDefEqProofs (maxSteps := 1000000) (disch := omega) only [↓xsP, ↓vc_seq, xsQ, xsT, xsR, xsD, ↓reduceIte, reduceCtorEq, eq_self, ne_eq, imp_self, forall_const, Nat.reduceEqDiff, Nat.reduceAdd, Nat.reduceSub, Nat.reduceMul, Nat.reduceLT, Nat.reduceLeDiff, Nat.reduceBEq, Nat.reduceDiv, Nat.reduceMod, Int.reduceToNat, Int.reduceNeg, Int.reduceAdd, Int.reduceSub, Int.reduceMul, Int.reduceEq, Int.reduceNe, Int.reduceLT, Int.reduceLE, Int.reduceGT, Int.reduceGE, h0], by simp -implicitDefEqProofs (maxSteps := 1000000) (disch := omega) only [↓xsP, ↓vc_seq, xsQ, xsT, xsR, xsD, ↓reduceIte, reduceCtorEq, eq_self, ne_eq, imp_self, forall_const, Nat.reduceEqDiff, Nat.reduceAdd, Nat.reduceSub, Nat.reduceMul, Nat.reduceLT, Nat.reduceLeDiff, Nat.reduceBEq, Nat.reduceDiv, Nat.reduceMod, Int.reduceToNat, Int.reduceNeg, Int.reduceAdd, Int.reduceSub, Int.reduceMul, Int.reduceEq, Int.reduceNe, Int.reduceLT, Int.reduceLE, Int.reduceGT, Int.reduceGE], by simp -implicitDefEqProofs (maxSteps := 1000000) (disch := omega) only [↓xsP, ↓vc_seq, xsQ, xsT, xsR, xsD, ↓reduceIte, reduceCtorEq, eq_self, ne_eq, imp_self, forall_const, Nat.reduceEqDiff, Nat.reduceAdd, Nat.reduceSub, Nat.reduceMul, Nat.reduceLT, Nat.reduceLeDiff, Nat.reduceBEq, Nat.reduceDiv, Nat.reduceMod, Int.reduceToNat, Int.reduceNeg, Int.reduceAdd, Int.reduceSub, Int.reduceMul, Int.reduceEq, Int.reduceNe, Int.reduceLT, Int.reduceLE, Int.reduceGT, Int.reduceGE, Int.cast_ofNat_Int], hM', fun j hj => by omega⟩
          · clear hMi h0 h6 h25 h26 h27 hM' hil hi hlt
            rintro k fr M' ⟨i, hi, rfl, h6, h52, h53, h54, hM', hok⟩
            have hMi : M' id = some (.cells 3 (P.map irow) 0) := by rw [hM']; exact Mem.set_eq _ _ _
            have hleM : M.le M' := by rw [hM']; exact le_new (Mem.le_refl _) hid
            simp -implicitDefEqProofs (maxSteps := 1000000) (disch := omega) only [↓xsP, ↓vc_seq, xsQ, xsT, xsR, xsD, ↓reduceIte, reduceCtorEq, eq_self, ne_eq, imp_self, forall_const, Nat.reduceEqDiff, Nat.reduceAdd, Nat.reduceSub, Nat.reduceMul, Nat.reduceLT, Nat.reduceLeDiff, Nat.reduceBEq, Nat.reduceDiv, Nat.reduceMod, Int.reduceToNat, Int.reduceNeg, Int.reduceAdd, Int.reduceSub, Int.reduceMul, Int.reduceEq, Int.reduceNe, Int.reduceLT, Int.reduceLE, Int.reduceGT, Int.reduceGE, h6, h52, h53, h54]
            refine condI_prop (fun hlt => ?_) (fun hlt => ?_)
            · simp -implicitDefEqProofs (maxSteps := 1000000) (disch := omega) only [↓xsP, ↓vc_seq, xsQ, xsT, xsR, xsD, ↓reduceIte, reduceCtorEq, eq_self, ne_eq, imp_self, forall_const, Nat.reduceEqDiff, Nat.reduceAdd, Nat.reduceSub, Nat.reduceMul, Nat.reduceLT, Nat.reduceLeDiff, Nat.reduceBEq, Nat.reduceDiv, Nat.reduceMod, Int.reduceToNat, Int.reduceNeg, Int.reduceAdd, Int.reduceSub, Int.reduceMul, Int.reduceEq, Int.reduceNe, Int.reduceLT, Int.reduceLE, Int.reduceGT, Int.reduceGE, h6, h52, h53, h54]
              refine newI_intro fun id2 hid2 => ?_
              simp -implicitDefEqProofs (maxSteps := 1000000) (disch := omega) only [↓xsP, ↓vc_seq, xsQ, xsT, xsR, xsD, ↓reduceIte, reduceCtorEq, eq_self, ne_eq, imp_self, forall_const, Nat.reduceEqDiff, Nat.reduceAdd, Nat.reduceSub, Nat.reduceMul, Nat.reduceLT, Nat.reduceLeDiff, Nat.reduceBEq, Nat.reduceDiv, Nat.reduceMod, Int.reduceToNat, Int.reduceNeg, Int.reduceAdd, Int.reduceSub, Int.reduceMul, Int.reduceEq, Int.reduceNe, Int.reduceLT, Int.reduceLE, Int.reduceGT, Int.reduceGE, h6, h52, h53, h54]
              refine xquiet (by kernel_rfl) (by kernel_rfl) (by kernel_rfl) ?_
              simp -implicitDefEqProofs (maxSteps := 1000000) (disch := omega) only [↓xsP, ↓vc_seq, xsQ, xsT, xsR, xsD, ↓reduceIte, reduceCtorEq, eq_self, ne_eq, imp_self, forall_const, Nat.reduceEqDiff, Nat.reduceAdd, Nat.reduceSub, Nat.reduceMul, Nat.reduceLT, Nat.reduceLeDiff, Nat.reduceBEq, Nat.reduceDiv, Nat.reduceMod, Int.reduceToNat, Int.reduceNeg, Int.reduceAdd, Int.reduceSub, Int.reduceMul, Int.reduceEq, Int.reduceNe, Int.reduceLT, Int.reduceLE, Int.reduceGT, Int.reduceGE, h6, h52, h53, h54]
              have hic : i < C.length := by omega
              have hii : id < id2 := lt_of_bnd hid2 hMi
              have hgi := i_get P (k := i) (by omega)
              have hpi := hpl i hic
              have hid2M : ∀ j, id2 ≤ j → M j = none := (bnd_new (hM' ▸ hid2)).2
              have hle2 : ∀ b, M.le (M'.set id2 b) := fun b => le_new hleM hid2M
              refine gI_prop (fun hf => ?_) (fun hf => ?_)
              · simp -implicitDefEqProofs (maxSteps := 1000000) (disch := omega) only [↓xsP, ↓vc_seq, xsQ, xsT, xsR, xsD, ↓reduceIte, reduceCtorEq, eq_self, ne_eq, imp_self, forall_const, Nat.reduceEqDiff, Nat.reduceAdd, Nat.reduceSub, Nat.reduceMul, Nat.reduceLT, Nat.reduceLeDiff, Nat.reduceBEq, Nat.reduceDiv, Nat.reduceMod, Int.reduceToNat, Int.reduceNeg, Int.reduceAdd, Int.reduceSub, Int.reduceMul, Int.reduceEq, Int.reduceNe, Int.reduceLT, Int.reduceLE, Int.reduceGT, Int.reduceGE, h6, h52, h53, h54, hf, hMi, hgi]
                refine condI_intro (fun hg => ?_) (fun hg => ?_)
                · simp -implicitDefEqProofs (maxSteps := 1000000) (disch := omega) only [↓xsP, ↓vc_seq, xsQ, xsT, xsR, xsD, ↓reduceIte, reduceCtorEq, eq_self, ne_eq, imp_self, forall_const, Nat.reduceEqDiff, Nat.reduceAdd, Nat.reduceSub, Nat.reduceMul, Nat.reduceLT, Nat.reduceLeDiff, Nat.reduceBEq, Nat.reduceDiv, Nat.reduceMod, Int.reduceToNat, Int.reduceNeg, Int.reduceAdd, Int.reduceSub, Int.reduceMul, Int.reduceEq, Int.reduceNe, Int.reduceLT, Int.reduceLE, Int.reduceGT, Int.reduceGE, h6, h52, h53, h54]
                  refine fin_ok (hle2 _) ⟨⟨.nils, ?_⟩, rfl⟩
                  rw [namedB, bof_false]
                  rintro ⟨-, -, h3⟩
                  have := h3 i hic (by omega)
                  rw [← hpi] at this
                  have hd : decide (P.getD i 0 ≥ 0) = decide ((C.getD i default).ans.err = 0) := decide_eq_decide.2 this
                  rw [hd] at hg
                  cases hb : decide ((C.getD i default).ans.err = 0) <;> rw [hb] at hg <;> cases hg
                · simp -implicitDefEqProofs (maxSteps := 1000000) (disch := omega) only [↓xsP, ↓vc_seq, xsQ, xsT, xsR, xsD, ↓reduceIte, reduceCtorEq, eq_self, ne_eq, imp_self, forall_const, Nat.reduceEqDiff, Nat.reduceAdd, Nat.reduceSub, Nat.reduceMul, Nat.reduceLT, Nat.reduceLeDiff, Nat.reduceBEq, Nat.reduceDiv, Nat.reduceMod, Int.reduceToNat, Int.reduceNeg, Int.reduceAdd, Int.reduceSub, Int.reduceMul, Int.reduceEq, Int.reduceNe, Int.reduceLT, Int.reduceLE, Int.reduceGT, Int.reduceGE, h6, h52, h53, h54]
                  refine ⟨C.length - (i + 1), M', by omega, le_new (Mem.le_refl _) hid2, i + 1, by omega, rfl, by simp, hM', fun j hj h0 => ?_⟩
                  by_cases e : j = i
                  · subst e
                    rw [← hpi]
                    have hd : decide (P.getD j 0 ≥ 0) = decide ((C.getD j default).ans.err = 0) := by
                      cases ha : decide (P.getD j 0 ≥ 0) <;> cases hb : decide ((C.getD j default).ans.err = 0) <;> rw [ha, hb] at hg <;> first | rfl | cases hg
                    exact decide_eq_decide.1 hd
                  · exact hok j (by omega) h0
              · simp -implicitDefEqProofs (maxSteps := 1000000) (disch := omega) only [↓xsP, ↓vc_seq, xsQ, xsT, xsR, xsD, ↓reduceIte, reduceCtorEq, eq_self, ne_eq, imp_self, forall_const, Nat.reduceEqDiff, Nat.reduceAdd, Nat.reduceSub, Nat.reduceMul, Nat.reduceLT, Nat.reduceLeDiff, Nat.reduceBEq, Nat.reduceDiv, Nat.reduceMod, Int.reduceToNat, Int.reduceNeg, Int.reduceAdd, Int.reduceSub, Int.reduceMul, Int.reduceEq, Int.reduceNe, Int.reduceLT, Int.reduceLE, Int.reduceGT, Int.reduceGE, h6, h52, h53, h54, hf]
                refine ⟨C.length - (i + 1), M', by omega, le_new (Mem.le_refl _) hid2, i + 1, by omega, rfl, by simp, hM', fun j hj h0 => ?_⟩
                by_cases e : j = i
                · subst e
                  omega
                · exact hok j (by omega) h0
            · simp -implicitDefEqProofs (maxSteps := 1000000) (disch := omega) only [↓xsP, ↓vc_seq, xsQ, xsT, xsR, xsD, ↓reduceIte, reduceCtorEq, eq_self, ne_eq, imp_self, forall_const, Nat.reduceEqDiff, Nat.reduceAdd, Nat.reduceSub, Nat.reduceMul, Nat.reduceLT, Nat.reduceLeDiff, Nat.reduceBEq, Nat.reduceDiv, Nat.reduceMod, Int.reduceToNat, Int.reduceNeg, Int.reduceAdd, Int.reduceSub, Int.reduceMul, Int.reduceEq, Int.reduceNe, Int.reduceLT, Int.reduceLE, Int.reduceGT, Int.reduceGE, h6, h52, h53, h54]
              refine fin_ok hleM ⟨⟨.ms id 0 C.length, ?_⟩, rfl⟩
              rw [namedB, bof_true ⟨hin, hnd, fun j hj => hok j (by omega)⟩]

def befP (c d : Cl) : Prop := 0 ≤ c.fin ∧ c.fin < d.beg
def clAt (C : List Cl) (i : Int) : Cl := C.getD i.toNat default
noncomputable def timelyB (C : List Cl) (l : List Int) : Bool := bof (∀ a b, a < b → b < l.length → ¬ befP (clAt C (l.getD b default)) (clAt C (l.getD a default)))
theorem i_drop (l : List Int) (k : Nat) : (l.map irow).drop k = (l.drop k).map irow := by rw [List.map_drop]
theorem gd_drop (l : List Int) (k j : Nat) : (l.drop k).getD j default = l.getD (k + j) default := by simp [List.getD_eq_getElem?_getD]
theorem bef_dec (c d : Cl) : (decide (0 ≤ c.fin) && decide (c.fin < d.beg)) = bof (befP c d) := by
  rw [Bool.eq_iff_iff, Bool.and_eq_true, decide_eq_true_eq, decide_eq_true_eq, bof_iff]
  exact Iff.rfl
theorem timely_spec (C : List Cl) (l : List Int) (hC : C.length ≤ 1000) (hl : l.length ≤ 1000) (hin : ∀ x ∈ l, 0 ≤ x ∧ x < C.length) (M : Mem) :
    XCalls Go.Proofs.Try.prog 60 [.l (.sl (C.map Cl.row)), .l (.sl (l.map irow))] M fun r M' => r = .l (.bool (timelyB C l)) ∧ M' = M := by
  refine xcalls_intro (rs := [.tmp 4]) Go.Proofs.Try.func60 rfl (by kernel_rfl) rfl rfl (by kernel_rfl) (by simp) ?_
  simp -implicitDefEqProofs (maxSteps := 1000000) (disch := omega) only [↓xsP, ↓vc_seq, xsQ, xsT, xsR, xsD, ↓reduceIte, reduceCtorEq, eq_self, ne_eq, imp_self, forall_const, Nat.reduceEqDiff, Nat.reduceAdd, Nat.reduceSub, Nat.reduceMul, Nat.reduceLT, Nat.reduceLeDiff, Nat.reduceBEq, Nat.reduceDiv, Nat.reduceMod, Int.reduceToNat, Int.reduceNeg, Int.reduceAdd, Int.reduceSub, Int.reduceMul, Int.reduceEq, Int.reduceNe, Int.reduceLT, Int.reduceLE, Int.reduceGT, Int.reduceGE]
  refine loopI_of (xloop (by kernel_rfl) (fun k fr M' => ∃ i : Nat, i ≤ l.length ∧ k = l.length - i ∧ fr 0 = .l (.sl (C.map Cl.row)) ∧ fr 1 = .l (.sl (l.map irow)) ∧ fr 9 = .l (.sl (l.map irow)) ∧ fr 10 = .l (.int .i64 l.length) ∧ fr 11 = .l (.int .i64 i) ∧ M' = M ∧
    ∀ a b, a < b → b < l.length → a < i → ¬ befP (clAt C (l.getD b default)) (clAt C (l.getD a default))) l.length ?_ ?_)
  · exact ⟨0, Nat.zero_le _, rfl, by simp -implicitDefEqProofs (maxSteps := 1000000) (disch := omega) only [↓xsP, ↓vc_seq, xsQ, xsT, xsR, xsD, ↓reduceIte, reduceCtorEq, eq_self, ne_eq, imp_self, forall_const, Nat.reduceEqDiff, Nat.reduceAdd, Nat.reduceSub, Nat.reduceMul, Nat.reduceLT, Nat.reduceLeDiff, Nat.reduceBEq, Nat.reduceDiv, Nat.reduceMod, Int.reduceToNat, Int.reduceNeg, Int.reduceAdd, Int.reduceSub, Int.reduceMul, Int.reduceEq, Int.reduceNe, Int.reduceLT, Int.reduceLE, Int.reduceGT, Int.reduceGE], by simp -implicitDefEqProofs (maxSteps := 1000000) (disch := omega) only [↓xsP, ↓vc_seq, xsQ, xsT, xsR, xsD, ↓reduceIte, reduceCtorEq, eq_self, ne_eq, imp_self, forall_const, Nat.reduceEqDiff, Nat.reduceAdd, Nat.reduceSub, Nat.reduceMul, Nat.reduceLT, Nat.reduceLeDiff, Nat.reduceBEq, Nat.reduceDiv, Nat.reduceMod, Int.reduceToNat, Int.reduceNeg, Int.reduceAdd, Int.reduceSub, Int.reduceMul, Int.reduceEq, Int.reduceNe, Int.reduceLT, Int.reduceLE, Int.reduceGT, Int.reduceGE], by simp -implicitDefEqProofs (maxSteps := 1000000) (disch := omega) only [↓xsP, ↓vc_seq, xsQ, xsT, xsR, xsD, ↓reduceIte, reduceCtorEq, eq_self, ne_eq, imp_self, forall_const, Nat.reduceEqDiff, Nat.reduceAdd, Nat.reduceSub, Nat.reduceMul, Nat.reduceLT, Nat.reduceLeDiff, Nat.reduceBEq, Nat.reduceDiv, Nat.reduceMod, Int.reduceToNat, Int.reduceNeg, Int.reduceAdd, Int.reduceSub, Int.reduceMul, Int.reduceEq, Int.reduceNe, Int.reduceLT, Int.reduceLE, Int.reduceGT, Int.reduceGE], by simp -implicitDefEqProofs (maxSteps := 1000000) (disch := omega) only [↓xsP, ↓vc_seq, xsQ, xsT, xsR, xsD, ↓reduceIte, reduceCtorEq, eq_self, ne_eq, imp_self, forall_const, Nat.reduceEqDiff, Nat.reduceAdd, Nat.reduceSub, Nat.reduceMul, Nat.reduceLT, Nat.reduceLeDiff, Nat.reduceBEq, Nat.reduceDiv, Nat.reduceMod, Int.reduceToNat, Int.reduceNeg, Int.reduceAdd, Int.reduceSub, Int.reduceMul, Int.reduceEq, Int.reduceNe, Int.reduceLT, Int.reduceLE, Int.reduceGT, Int.reduceGE], by simp -implicitDefEqProofs (maxSteps := 1000000) (disch := omega) only [↓xsP, ↓vc_seq, xsQ, xsT, xsR, xsD, ↓reduceIte, reduceCtorEq, eq_self, ne_eq, imp_self, forall_const, Nat.reduceEqDiff, Nat.reduceAdd, Nat.reduceSub, Nat.reduceMul, Nat.reduceLT, Nat.reduceLeDiff, Nat.reduceBEq, Nat.reduceDiv, Nat.reduceMod, Int.reduceToNat, Int.reduceNeg, Int.reduceAdd, Int.reduceSub, Int.reduceMul, Int.reduceEq, Int.reduceNe, Int.reduceLT, Int.reduceLE, Int.reduceGT, Int.reduceGE, Int.cast_ofNat_Int], rfl, fun a b _ _ h => by omega⟩
  · rintro k fr M' ⟨i, hi, rfl, h0, h1, h9, h10, h11, rfl, hok⟩
    simp -implicitDefEqProofs (maxSteps := 1000000) (disch := omega) only [↓xsP, ↓vc_seq, xsQ, xsT, xsR, xsD, ↓reduceIte, reduceCtorEq, eq_self, ne_eq, imp_self, forall_const, Nat.reduceEqDiff, Nat.reduceAdd, Nat.reduceSub, Nat.reduceMul, Nat.reduceLT, Nat.reduceLeDiff, Nat.reduceBEq, Nat.reduceDiv, Nat.reduceMod, Int.reduceToNat, Int.reduceNeg, Int.reduceAdd, Int.reduceSub, Int.reduceMul, Int.reduceEq, Int.reduceNe, Int.reduceLT, Int.reduceLE, Int.reduceGT, Int.reduceGE, h0, h1, h9, h10, h11]
    refine condI_prop (fun hlt => ?_) (fun hlt => ?_)
    · have hil : i < l.length := by omega
      have hs1 : (0 ≤ (i : Int) + 1 ∧ (i : Int) + 1 ≤ (l.length : Int)) = True := eq_true (by omega)
      simp -implicitDefEqProofs (maxSteps := 1000000) (disch := omega) only [↓xsP, ↓vc_seq, xsQ, xsT, xsR, xsD, ↓reduceIte, reduceCtorEq, eq_self, ne_eq, imp_self, forall_const, Nat.reduceEqDiff, Nat.reduceAdd, Nat.reduceSub, Nat.reduceMul, Nat.reduceLT, Nat.reduceLeDiff, Nat.reduceBEq, Nat.reduceDiv, Nat.reduceMod, Int.reduceToNat, Int.reduceNeg, Int.reduceAdd, Int.reduceSub, Int.reduceMul, Int.reduceEq, Int.reduceNe, Int.reduceLT, Int.reduceLE, Int.reduceGT, Int.reduceGE, h0, h1, h9, h10, h11, i_drop]
      rw [if_pos (show (0 : Int) ≤ (i : Int) + 1 by omega)]
      simp -implicitDefEqProofs (maxSteps := 1000000) (disch := omega) only [↓xsP, ↓vc_seq, xsQ, xsT, xsR, xsD, ↓reduceIte, reduceCtorEq, eq_self, ne_eq, imp_self, forall_const, Nat.reduceEqDiff, Nat.reduceAdd, Nat.reduceSub, Nat.reduceMul, Nat.reduceLT, Nat.reduceLeDiff, Nat.reduceBEq, Nat.reduceDiv, Nat.reduceMod, Int.reduceToNat, Int.reduceNeg, Int.reduceAdd, Int.reduceSub, Int.reduceMul, Int.reduceEq, Int.reduceNe, Int.reduceLT, Int.reduceLE, Int.reduceGT, Int.reduceGE]
      rw [if_pos ⟨by omega, rows_i l⟩]
      simp -implicitDefEqProofs (maxSteps := 1000000) (disch := omega) only [↓xsP, ↓vc_seq, xsQ, xsT, xsR, xsD, ↓reduceIte, reduceCtorEq, eq_self, ne_eq, imp_self, forall_const, Nat.reduceEqDiff, Nat.reduceAdd, Nat.reduceSub, Nat.reduceMul, Nat.reduceLT, Nat.reduceLeDiff, Nat.reduceBEq, Nat.reduceDiv, Nat.reduceMod, Int.reduceToNat, Int.reduceNeg, Int.reduceAdd, Int.reduceSub, Int.reduceMul, Int.reduceEq, Int.reduceNe, Int.reduceLT, Int.reduceLE, Int.reduceGT, Int.reduceGE, h0, h1, h9, h10, h11]
      rw [List.take_of_length_le (by simp)]
      simp -implicitDefEqProofs (maxSteps := 1000000) (disch := omega) only [↓xsP, ↓vc_seq, xsQ, xsT, xsR, xsD, ↓reduceIte, reduceCtorEq, eq_self, ne_eq, imp_self, forall_const, Nat.reduceEqDiff, Nat.reduceAdd, Nat.reduceSub, Nat.reduceMul, Nat.reduceLT, Nat.reduceLeDiff, Nat.reduceBEq, Nat.reduceDiv, Nat.reduceMod, Int.reduceToNat, Int.reduceNeg, Int.reduceAdd, Int.reduceSub, Int.reduceMul, Int.reduceEq, Int.reduceNe, Int.reduceLT, Int.reduceLE, Int.reduceGT, Int.reduceGE, h0, h1, h9, h10, h11]
      have hdl : (l.drop (i + 1)).length = l.length - (i + 1) := by simp
      have hdg : ∀ j, (l.drop (i + 1)).getD j default = l.getD (i + 1 + j) default := gd_drop l (i + 1)
      have hxi := hin _ (getD_mem' l default hil)
      generalize hx : l.getD i default = x at hxi ⊢
      refine loopI_of (xloop (by kernel_rfl) (fun k fr M2 => ∃ j : Nat, j ≤ l.length - (i + 1) ∧ k = l.length - (i + 1) - j ∧ fr 0 = .l (.sl (C.map Cl.row)) ∧ fr 1 = .l (.sl (l.map irow)) ∧ fr 6 = .l (.int .i64 x) ∧ fr 9 = .l (.sl (l.map irow)) ∧ fr 10 = .l (.int .i64 l.length) ∧ fr 11 = .l (.int .i64 i) ∧
        fr 19 = .l (.sl ((l.drop (i + 1)).map irow)) ∧ fr 20 = .l (.int .i64 (l.length - (i + 1) : Nat)) ∧ fr 21 = .l (.int .i64 j) ∧ M2 = M' ∧ ∀ b, i < b → b < i + 1 + j → ¬ befP (clAt C (l.getD b default)) (clAt C x)) (l.length - (i + 1)) ?_ ?_)
      · exact ⟨0, Nat.zero_le _, rfl, by simp -implicitDefEqProofs (maxSteps := 1000000) (disch := omega) only [↓xsP, ↓vc_seq, xsQ, xsT, xsR, xsD, ↓reduceIte, reduceCtorEq, eq_self, ne_eq, imp_self, forall_const, Nat.reduceEqDiff, Nat.reduceAdd, Nat.reduceSub, Nat.reduceMul, Nat.reduceLT, Nat.reduceLeDiff, Nat.reduceBEq, Nat.reduceDiv, Nat.reduceMod, Int.reduceToNat, Int.reduceNeg, Int.reduceAdd, Int.reduceSub, Int.reduceMul, Int.reduceEq, Int.reduceNe, Int.reduceLT, Int.reduceLE, Int.reduceGT, Int.reduceGE, h0], by simp -implicitDefEqProofs (maxSteps := 1000000) (disch := omega) only [↓xsP, ↓vc_seq, xsQ, xsT, xsR, xsD, ↓reduceIte, reduceCtorEq, eq_self, ne_eq, imp_self, forall_const, Nat.reduceEqDiff, Nat.reduceAdd, Nat.reduceSub, Nat.reduceMul, Nat.reduceLT, Nat.reduceLeDiff, Nat.reduceBEq, Nat.reduceDiv, Nat.reduceMod, Int.reduceToNat, Int.reduceNeg, Int.reduceAdd, Int.reduceSub, Int.reduceMul, Int.reduceEq, Int.reduceNe, Int.reduceLT, Int.reduceLE, Int.reduceGT, Int.reduceGE, h1], by simp -implicitDefEqProofs (maxSteps := 1000000) (disch := omega) only [↓xsP, ↓vc_seq, xsQ, xsT, xsR, xsD, ↓reduceIte, reduceCtorEq, eq_self, ne_eq, imp_self, forall_const, Nat.reduceEqDiff, Nat.reduceAdd, Nat.reduceSub, Nat.reduceMul, Nat.reduceLT, Nat.reduceLeDiff, Nat.reduceBEq, Nat.reduceDiv, Nat.reduceMod, Int.reduceToNat, Int.reduceNeg, Int.reduceAdd, Int.reduceSub, Int.reduceMul, Int.reduceEq, Int.reduceNe, Int.reduceLT, Int.reduceLE, Int.reduceGT, Int.reduceGE], by simp -implicitDefEqProofs (maxSteps := 1000000) (disch := omega) only [↓xsP, ↓vc_seq, xsQ, xsT, xsR, xsD, ↓reduceIte, reduceCtorEq, eq_self, ne_eq, imp_self, forall_const, Nat.reduceEqDiff, Nat.reduceAdd, Nat.reduceSub, Nat.reduceMul, Nat.reduceLT, Nat.reduceLeDiff, Nat.reduceBEq, Nat.reduceDiv, Nat.reduceMod, Int.reduceToNat, Int.reduceNeg, Int.reduceAdd, Int.reduceSub, Int.reduceMul, Int.reduceEq, Int.reduceNe, Int.reduceLT, Int.reduceLE, Int.reduceGT, Int.reduceGE, h9], by simp -implicitDefEqProofs (maxSteps := 1000000) (disch := omega) only [↓xsP, ↓vc_seq, xsQ, xsT, xsR, xsD, ↓reduceIte, reduceCtorEq, eq_self, ne_eq, imp_self, forall_const, Nat.reduceEqDiff, Nat.reduceAdd, Nat.reduceSub, Nat.reduceMul, Nat.reduceLT, Nat.reduceLeDiff, Nat.reduceBEq, Nat.reduceDiv, Nat.reduceMod, Int.reduceToNat, Int.reduceNeg, Int.reduceAdd, Int.reduceSub, Int.reduceMul, Int.reduceEq, Int.reduceNe, Int.reduceLT, Int.reduceLE, Int.reduceGT, Int.reduceGE, h10], by simp -implicitDefEqProofs (maxSteps := 1000000) (disch := omega) only [↓xsP, ↓vc_seq, xsQ, xsT, xsR, xsD, ↓reduceIte, reduceCtorEq, eq_self, ne_eq, imp_self, forall_const, Nat.reduceEqDiff, Nat.reduceAdd, Nat.reduceSub, Nat.reduceMul, Nat.reduceLT, Nat.reduceLeDiff, Nat.reduceBEq, Nat.reduceDiv, Nat.reduceMod, Int.reduceToNat, Int.reduceNeg, Int.reduceAdd, Int.reduceSub, Int.reduceMul, Int.reduceEq, Int.reduceNe, Int.reduceLT, Int.reduceLE, Int.reduceGT, Int.reduceGE, h11], by simp -implicitDefEqProofs (maxSteps := 1000000) (disch := omega) only [↓xsP, ↓vc_seq, xsQ, xsT, xsR, xsD, ↓reduceIte, reduceCtorEq, eq_self, ne_eq, imp_self, forall_const, Nat.reduceEqDiff, Nat.reduceAdd, Nat.reduceSub, Nat.reduceMul, Nat.reduceLT, Nat.reduceLeDiff, Nat.reduceBEq, Nat.reduceDiv, Nat.reduceMod, Int.reduceToNat, Int.reduceNeg, Int.reduceAdd, Int.reduceSub, Int.reduceMul, Int.reduceEq, Int.reduceNe, Int.reduceLT, Int.reduceLE, Int.reduceGT, Int.reduceGE], by simp -implicitDefEqProofs (maxSteps := 1000000) (disch := omega) only [↓xsP, ↓vc_seq, xsQ, xsT, xsR, xsD, ↓reduceIte, reduceCtorEq, eq_self, ne_eq, imp_self, forall_const, Nat.reduceEqDiff, Nat.reduceAdd, Nat.reduceSub, Nat.reduceMul, Nat.reduceLT, Nat.reduceLeDiff, Nat.reduceBEq, Nat.reduceDiv, Nat.reduceMod, Int.reduceToNat, Int.reduceNeg, Int.reduceAdd, Int.reduceSub, Int.reduceMul, Int.reduceEq, Int.reduceNe, Int.reduceLT, Int.reduceLE, Int.reduceGT, Int.reduceGE, hdl], by simp -implicitDefEqProofs (maxSteps := 1000000) (disch := omega) only [↓xsP, ↓vc_seq, xsQ, xsT, xsR, xsD, ↓reduceIte, reduceCtorEq, eq_self, ne_eq, imp_self, forall_const, Nat.reduceEqDiff, Nat.reduceAdd, Nat.reduceSub, Nat.reduceMul, Nat.reduceLT, Nat.reduceLeDiff, Nat.reduceBEq, Nat.reduceDiv, Nat.reduceMod, Int.reduceToNat, Int.reduceNeg, Int.reduceAdd, Int.reduceSub, Int.reduceMul, Int.reduceEq, Int.reduceNe, Int.reduceLT, Int.reduceLE, Int.reduceGT, Int.reduceGE, Int.cast_ofNat_Int], rfl, fun b h1 h2 => by omega⟩
      · clear h0 h1 h9 h10 h11
        rintro k fr M2 ⟨j, hj, rfl, h0, h1, h6, h9, h10, h11, h19, h20, h21, rfl, hin2⟩
        simp -implicitDefEqProofs (maxSteps := 1000000) (disch := omega) only [↓xsP, ↓vc_seq, xsQ, xsT, xsR, xsD, ↓reduceIte, reduceCtorEq, eq_self, ne_eq, imp_self, forall_const, Nat.reduceEqDiff, Nat.reduceAdd, Nat.reduceSub, Nat.reduceMul, Nat.reduceLT, Nat.reduceLeDiff, Nat.reduceBEq, Nat.reduceDiv, Nat.reduceMod, Int.reduceToNat, Int.reduceNeg, Int.reduceAdd, Int.reduceSub, Int.reduceMul, Int.reduceEq, Int.reduceNe, Int.reduceLT, Int.reduceLE, Int.reduceGT, Int.reduceGE, h0, h1, h6, h9, h10, h11, h19, h20, h21]
        refine condI_prop (fun hlt2 => ?_) (fun hlt2 => ?_)
        · have hjl : j < l.length - (i + 1) := by omega
          simp -implicitDefEqProofs (maxSteps := 1000000) (disch := omega) only [↓xsP, ↓vc_seq, xsQ, xsT, xsR, xsD, ↓reduceIte, reduceCtorEq, eq_self, ne_eq, imp_self, forall_const, Nat.reduceEqDiff, Nat.reduceAdd, Nat.reduceSub, Nat.reduceMul, Nat.reduceLT, Nat.reduceLeDiff, Nat.reduceBEq, Nat.reduceDiv, Nat.reduceMod, Int.reduceToNat, Int.reduceNeg, Int.reduceAdd, Int.reduceSub, Int.reduceMul, Int.reduceEq, Int.reduceNe, Int.reduceLT, Int.reduceLE, Int.reduceGT, Int.reduceGE, h0, h1, h6, h9, h10, h11, h19, h20, h21, hdl, hdg]
          have hyi := hin _ (getD_mem' l default (i := i + 1 + j) (by omega))
          generalize hy : l.getD (i + 1 + j) default = y at hyi ⊢
          have hyr : (0 ≤ y ∧ y < (C.length : Int)) = True := eq_true hyi
          refine xquiet (by kernel_rfl) (by kernel_rfl) (by kernel_rfl) ?_
          simp -implicitDefEqProofs (maxSteps := 1000000) (disch := omega) only [↓xsP, ↓vc_seq, xsQ, xsT, xsR, xsD, ↓reduceIte, reduceCtorEq, eq_self, ne_eq, imp_self, forall_const, Nat.reduceEqDiff, Nat.reduceAdd, Nat.reduceSub, Nat.reduceMul, Nat.reduceLT, Nat.reduceLeDiff, Nat.reduceBEq, Nat.reduceDiv, Nat.reduceMod, Int.reduceToNat, Int.reduceNeg, Int.reduceAdd, Int.reduceSub, Int.reduceMul, Int.reduceEq, Int.reduceNe, Int.reduceLT, Int.reduceLE, Int.reduceGT, Int.reduceGE, h0, h1, h6, h9, h10, h11, h19, h20, h21]
          refine dcallI_of (before_spec (clAt C y) (clAt C x) _) ?_
          simp -implicitDefEqProofs (maxSteps := 1000000) (disch := omega) only [↓xsP, ↓vc_seq, xsQ, xsT, xsR, xsD, ↓reduceIte, reduceCtorEq, eq_self, ne_eq, imp_self, forall_const, Nat.reduceEqDiff, Nat.reduceAdd, Nat.reduceSub, Nat.reduceMul, Nat.reduceLT, Nat.reduceLeDiff, Nat.reduceBEq, Nat.reduceDiv, Nat.reduceMod, Int.reduceToNat, Int.reduceNeg, Int.reduceAdd, Int.reduceSub, Int.reduceMul, Int.reduceEq, Int.reduceNe, Int.reduceLT, Int.reduceLE, Int.reduceGT, Int.reduceGE, bef_dec]
          refine condI_intro (fun hb => ?_) (fun hb => ?_)
          · simp -implicitDefEqProofs (maxSteps := 1000000) (disch := omega) only [↓xsP, ↓vc_seq, xsQ, xsT, xsR, xsD, ↓reduceIte, reduceCtorEq, eq_self, ne_eq, imp_self, forall_const, Nat.reduceEqDiff, Nat.reduceAdd, Nat.reduceSub, Nat.reduceMul, Nat.reduceLT, Nat.reduceLeDiff, Nat.reduceBEq, Nat.reduceDiv, Nat.reduceMod, Int.reduceToNat, Int.reduceNeg, Int.reduceAdd, Int.reduceSub, Int.reduceMul, Int.reduceEq, Int.reduceNe, Int.reduceLT, Int.reduceLE, Int.reduceGT, Int.reduceGE, h0, h1, h6, h9, h10, h11, h19, h20, h21]
            refine fin_ok (Mem.le_refl _) ⟨?_, rfl⟩
            rw [timelyB, bof_false]
            intro hh
            have := hh i (i + 1 + j) (by omega) (by omega)
            rw [hx, hy] at this
            exact this (bof_iff.1 hb)
          · simp -implicitDefEqProofs (maxSteps := 1000000) (disch := omega) only [↓xsP, ↓vc_seq, xsQ, xsT, xsR, xsD, ↓reduceIte, reduceCtorEq, eq_self, ne_eq, imp_self, forall_const, Nat.reduceEqDiff, Nat.reduceAdd, Nat.reduceSub, Nat.reduceMul, Nat.reduceLT, Nat.reduceLeDiff, Nat.reduceBEq, Nat.reduceDiv, Nat.reduceMod, Int.reduceToNat, Int.reduceNeg, Int.reduceAdd, Int.reduceSub, Int.reduceMul, Int.reduceEq, Int.reduceNe, Int.reduceLT, Int.reduceLE, Int.reduceGT, Int.reduceGE, h0, h1, h6, h9, h10, h11, h19, h20, h21]
            refine ⟨l.length - (i + 1) - (j + 1), M2, by omega, Mem.le_refl _, j + 1, by omega, rfl, by simp, rfl, fun b h1 h2 => ?_⟩
            by_cases e : b = i + 1 + j
            · rw [e, hy]
              exact bof_not.1 hb
            · exact hin2 b h1 (by omega)
        · simp -implicitDefEqProofs (maxSteps := 1000000) (disch := omega) only [↓xsP, ↓vc_seq, xsQ, xsT, xsR, xsD, ↓reduceIte, reduceCtorEq, eq_self, ne_eq, imp_self, forall_const, Nat.reduceEqDiff, Nat.reduceAdd, Nat.reduceSub, Nat.reduceMul, Nat.reduceLT, Nat.reduceLeDiff, Nat.reduceBEq, Nat.reduceDiv, Nat.reduceMod, Int.reduceToNat, Int.reduceNeg, Int.reduceAdd, Int.reduceSub, Int.reduceMul, Int.reduceEq, Int.reduceNe, Int.reduceLT, Int.reduceLE, Int.reduceGT, Int.reduceGE, h0, h1, h6, h9, h10, h11, h19, h20, h21]
          refine ⟨l.length - (i + 1), M2, by omega, Mem.le_refl _, i + 1, by omega, rfl, by simp, rfl, fun a b h1 h2 h3 => ?_⟩
          by_cases e : a = i
          · subst e
            rw [hx]
            exact hin2 b h1 (by omega)
          · exact hok a b h1 h2 (by omega)
    · simp -implicitDefEqProofs (maxSteps := 1000000) (disch := omega) only [↓xsP, ↓vc_seq, xsQ, xsT, xsR, xsD, ↓reduceIte, reduceCtorEq, eq_self, ne_eq, imp_self, forall_const, Nat.reduceEqDiff, Nat.reduceAdd, Nat.reduceSub, Nat.reduceMul, Nat.reduceLT, Nat.reduceLeDiff, Nat.reduceBEq, Nat.reduceDiv, Nat.reduceMod, Int.reduceToNat, Int.reduceNeg, Int.reduceAdd, Int.reduceSub, Int.reduceMul, Int.reduceEq, Int.reduceNe, Int.reduceLT, Int.reduceLE, Int.reduceGT, Int.reduceGE, h0, h1, h9, h10, h11]
      refine fin_ok (Mem.le_refl _) ⟨?_, rfl⟩
      rw [timelyB, bof_true]
      exact fun a b h1 h2 => hok a b h1 h2 (by omega)
end Go.X

/- The reference's calls are those of the history. -/

set_option linter.unusedVariables false
set_option linter.unusedSimpArgs false
set_option maxRecDepth 100000
namespace Go.X

def lastBy (out : List Cl) (w : Int) : Nat → Option Nat
  | 0 => none
  | n + 1 => if (out.getD n default).who = w then some n else lastBy out w n
theorem lastBy_is {out : List Cl} {w : Int} {k : Nat} (hk : (out.getD k default).who = w) : ∀ {n : Nat}, k < n → (∀ j, k < j → j < n → (out.getD j default).who ≠ w) → lastBy out w n = some k
  | 0, h, _ => by omega
  | n + 1, h, ho => by
    rw [lastBy]
    by_cases e : k = n
    · subst e
      rw [if_pos hk]
    · rw [if_neg (ho n (by omega) (by omega))]
      exact lastBy_is hk (by omega) fun j h1 h2 => ho j h1 (by omega)
noncomputable def cstep (i : Nat) (x : Evt) (out : List Cl) : List Cl :=
  if x.ret = false then out ++ [⟨x.who, i, -1, x.op, ans0⟩]
  else match lastBy out x.who out.length with
    | some k => out.set k { out.getD k default with fin := i, ans := x.ans }
    | none => out
noncomputable def crun : List Evt → Nat → List Cl → List Cl
  | [], _, out => out
  | x :: r, i, out => crun r (i + 1) (cstep i x out)
theorem crun_rrun {h : List Evt} {l : List Evt} : ∀ (i : Nat) (s s' : List Cl × List (Int × Int)), h.drop i = l → i ≤ h.length → HInv h i s → rrun l i s = some s' → crun l i s.1 = s'.1 := by
  induction l with
  | nil =>
    intro i s s' hd hi I hr
    simp only [rrun, Option.some.injEq] at hr
    subst hr
    rfl
  | cons x l ih =>
    intro i s s' hd hi I hr
    have hi' : i < h.length := by
      rcases Nat.lt_or_ge i h.length with h' | h'
      · exact h'
      · rw [List.drop_of_length_le h'] at hd; cases hd
    have hdrop := List.drop_eq_getElem_cons hi'
    rw [hd] at hdrop
    obtain ⟨hx, hl⟩ := List.cons.inj hdrop
    have hg : h.getD i default = x := by simp [List.getD_eq_getElem?_getD, hi', ← hx]
    simp only [rrun] at hr
    cases hst : rstep i x s with
    | none => rw [hst] at hr; cases hr
    | some s1 =>
      rw [hst, Option.bind_some] at hr
      have hn := ih (i + 1) s1 s' hl.symm (by omega) (I.step hi' (by rw [hg]; exact hst)) hr
      rw [crun, ← hn]
      congr 1
      obtain ⟨out, ms⟩ := s
      obtain ⟨_, _, hc⟩ := rstep_cases I hst
      rcases hc with ⟨hret, _, _, _, rfl⟩ | ⟨hret, k0, hk0, _, hwho, hfin, _, rfl⟩
      · rw [cstep, if_pos hret]
      · have hlb : lastBy out x.who out.length = some k0 := lastBy_is hwho hk0 fun j h1 h2 e => by
          have := I.seq k0 j h1 h2 (by rw [hwho, e])
          simp only [hfin] at this
          omega
        rw [cstep, if_neg (by simp [hret])]
        simp only [hlb]
theorem calR_eq {h : List Evt} (hok : okP h = true) : crun h 0 [] = callsP h := by
  obtain ⟨ms, hr, _⟩ := okP_inv hok
  exact crun_rrun 0 ([], []) _ rfl (Nat.zero_le _) (HInv.zero h) hr

theorem rrun_mrun {h : List Evt} {l : List Evt} : ∀ (i : Nat) (m : List Bool × List Opn) (s s' : List Cl × List (Int × Int)), h.drop i = l → i ≤ h.length → HInv h i s → MInv m s → rrun l i s = some s' → ∃ m', mrun l m = some m' := by
  induction l with
  | nil =>
    intro i m s s' hd hi I J hr
    exact ⟨m, rfl⟩
  | cons x l ih =>
    intro i m s s' hd hi I J hr
    have hi' : i < h.length := by
      rcases Nat.lt_or_ge i h.length with h' | h'
      · exact h'
      · rw [List.drop_of_length_le h'] at hd; cases hd
    have hdrop := List.drop_eq_getElem_cons hi'
    rw [hd] at hdrop
    obtain ⟨hx, hl⟩ := List.cons.inj hdrop
    have hg : h.getD i default = x := by simp [List.getD_eq_getElem?_getD, hi', ← hx]
    simp only [rrun] at hr
    cases hst : rstep i x s with
    | none => rw [hst] at hr; cases hr
    | some s1 =>
      rw [hst, Option.bind_some] at hr
      have hm : ∃ m1, mstep x m = some m1 := by
        obtain ⟨out, ms⟩ := s
        obtain ⟨w0, w1, hc⟩ := rstep_cases I hst
        have hon := J.on x.who.toNat (by omega)
        have e : ((x.who.toNat : Nat) : Int) = x.who := by omega
        rw [e] at hon
        rcases hc with ⟨hret, hnone, hop, hans, rfl⟩ | ⟨hret, k0, hk0, hg0, hwho, hfin, hop, rfl⟩
        · simp only [hnone] at hon
          refine ⟨(m.1.set x.who.toNat (!x.ret), m.2.set x.who.toNat x.op), ?_⟩
          rw [mstep, if_neg, if_neg]
          · simp [hret, hop, hans]
          · rintro (h1 | h1 | h1)
            · omega
            · omega
            · exact h1 (by rw [hret, hon]; rfl)
        · simp only [hg0] at hon
          have hjo := J.op x.who.toNat k0 (by omega) (by rw [e]; exact hg0)
          simp only at hjo
          refine ⟨(m.1.set x.who.toNat (!x.ret), m.2.set x.who.toNat x.op), ?_⟩
          rw [mstep, if_neg, if_neg]
          · rintro (⟨h1, -⟩ | ⟨-, h1⟩)
            · rw [hret] at h1
              cases h1
            · exact h1 (by rw [← hjo, hop])
          · rintro (h1 | h1 | h1)
            · omega
            · omega
            · exact h1 (by rw [hret, hon]; rfl)
      obtain ⟨m1, hm⟩ := hm
      obtain ⟨s2, h2, J2⟩ := MInv.step I J hm
      rw [hst] at h2
      cases h2
      obtain ⟨m', h3⟩ := ih (i + 1) m1 s1 s' hl.symm (by omega) (I.step hi' (by rw [hg]; exact hst)) J2 hr
      exact ⟨m', by rw [mrun, hm, Option.bind_some]; exact h3⟩
theorem mayP_eq (h : List Evt) : mayP h = okP h := by
  rw [Bool.eq_iff_iff]
  refine ⟨okP_of_mayP, fun hok => ?_⟩
  obtain ⟨ms, hr, _⟩ := okP_inv hok
  obtain ⟨m', hm⟩ := rrun_mrun 0 _ _ _ rfl (Nat.zero_le _) (HInv.zero h) minv0 hr
  rw [List.drop_zero] at hm
  rw [mayP, hm]
  rfl
end Go.X

/- Orders: a model goes along an order; what is right. -/


set_option linter.unusedVariables false
set_option linter.unusedSimpArgs false
set_option maxHeartbeats 20000000
set_option maxRecDepth 100000
namespace Go.X
open Go.Proofs.Try (prog)

noncomputable def goesO (C : List Cl) : List Int → List Pr → Option (List Pr)
  | [], s => some s
  | i :: r, s => if 0 ≤ (clAt C i).fin ∧ doA s (clAt C i).op ≠ (clAt C i).ans then none else goesO C r (doL s (clAt C i).op)
theorem doA_lenO (l : List Pr) (op : Opn) : (doA l op).pairs.length ≤ l.length := by
  have h1 := stays_len (outside op.key op.to) l
  rw [doA]
  split
  · simp
  · split
    · exact h1
    · split
      · simp
      · split
        · split <;> simp [ans0]
        · split
          · split <;> simp [ans0]
          · rw [ansAt_pairs]; simp
theorem goes_spec (b : List Pr) (C : List Cl) (l : List Int) (hb : b.length ≤ 100000) (hC : C.length ≤ 1000) (hl : l.length ≤ 1000) (hin : ∀ x ∈ l, 0 ≤ x ∧ x < C.length) (M : Mem) :
    XCalls Go.Proofs.Try.prog 61 [.l (.sl (b.map Pr.row)), .l (.sl (C.map Cl.row)), .l (.sl (l.map irow))] M fun r M' =>
      match goesO C l (putL b) with
      | none => r = .tup [.l .nilp, .l (.bool false)] ∧ M' = M
      | some s => ∃ id, (∀ j, id ≤ j → M j = none) ∧ r = .tup [.l (.ptr id 0 0), .l (.bool true)] ∧ M' = M.set id (mapB s) := by
  refine xcalls_intro (rs := [.tmp 6, .tmp 7]) Go.Proofs.Try.func61 rfl (by kernel_rfl) rfl rfl (by kernel_rfl) (by simp) ?_
  simp -implicitDefEqProofs (maxSteps := 1000000) (disch := omega) only [↓xsP, ↓vc_seq, xsQ, xsT, xsR, xsD, ↓reduceIte, reduceCtorEq, eq_self, ne_eq, imp_self, forall_const, Nat.reduceEqDiff, Nat.reduceAdd, Nat.reduceSub, Nat.reduceMul, Nat.reduceLT, Nat.reduceLeDiff, Nat.reduceBEq, Nat.reduceDiv, Nat.reduceMod, Int.reduceToNat, Int.reduceNeg, Int.reduceAdd, Int.reduceSub, Int.reduceMul, Int.reduceEq, Int.reduceNe, Int.reduceLT, Int.reduceLE, Int.reduceGT, Int.reduceGE]
  refine callI_of ((new_spec b (by omega) _).mono ?_)
  rintro _ _ ⟨id, hid, rfl, rfl⟩
  have hpl := putL_len b
  simp -implicitDefEqProofs (maxSteps := 1000000) (disch := omega) only [↓xsP, ↓vc_seq, xsQ, xsT, xsR, xsD, ↓reduceIte, reduceCtorEq, eq_self, ne_eq, imp_self, forall_const, Nat.reduceEqDiff, Nat.reduceAdd, Nat.reduceSub, Nat.reduceMul, Nat.reduceLT, Nat.reduceLeDiff, Nat.reduceBEq, Nat.reduceDiv, Nat.reduceMod, Int.reduceToNat, Int.reduceNeg, Int.reduceAdd, Int.reduceSub, Int.reduceMul, Int.reduceEq, Int.reduceNe, Int.reduceLT, Int.reduceLE, Int.reduceGT, Int.reduceGE]
  refine loopI_of (xloop (by kernel_rfl) (fun k fr M' => ∃ (i : Nat) (s : List Pr), i ≤ l.length ∧ k = l.length - i ∧ fr 1 = .l (.sl (C.map Cl.row)) ∧ fr 8 = .l (.ptr id 0 0) ∧ fr 14 = .l (.sl (l.map irow)) ∧ fr 15 = .l (.int .i64 l.length) ∧ fr 16 = .l (.int .i64 i) ∧ M' = M.set id (mapB s) ∧
    goesO C l (putL b) = goesO C (l.drop i) s ∧ s.length ≤ b.length + i) l.length ?_ ?_)
  · exact ⟨0, putL b, Nat.zero_le _, rfl, by simp -implicitDefEqProofs (maxSteps := 1000000) (disch := omega) only [↓xsP, ↓vc_seq, xsQ, xsT, xsR, xsD, ↓reduceIte, reduceCtorEq, eq_self, ne_eq, imp_self, forall_const, Nat.reduceEqDiff, Nat.reduceAdd, Nat.reduceSub, Nat.reduceMul, Nat.reduceLT, Nat.reduceLeDiff, Nat.reduceBEq, Nat.reduceDiv, Nat.reduceMod, Int.reduceToNat, Int.reduceNeg, Int.reduceAdd, Int.reduceSub, Int.reduceMul, Int.reduceEq, Int.reduceNe, Int.reduceLT, Int.reduceLE, Int.reduceGT, Int.reduceGE], by simp -implicitDefEqProofs (maxSteps := 1000000) (disch := omega) only [↓xsP, ↓vc_seq, xsQ, xsT, xsR, xsD, ↓reduceIte, reduceCtorEq, eq_self, ne_eq, imp_self, forall_const, Nat.reduceEqDiff, Nat.reduceAdd, Nat.reduceSub, Nat.reduceMul, Nat.reduceLT, Nat.reduceLeDiff, Nat.reduceBEq, Nat.reduceDiv, Nat.reduceMod, Int.reduceToNat, Int.reduceNeg, Int.reduceAdd, Int.reduceSub, Int.reduceMul, Int.reduceEq, Int.reduceNe, Int.reduceLT, Int.reduceLE, Int.reduceGT, Int.reduceGE], by simp -implicitDefEqProofs (maxSteps := 1000000) (disch := omega) only [↓xsP, ↓vc_seq, xsQ, xsT, xsR, xsD, ↓reduceIte, reduceCtorEq, eq_self, ne_eq, imp_self, forall_const, Nat.reduceEqDiff, Nat.reduceAdd, Nat.reduceSub, Nat.reduceMul, Nat.reduceLT, Nat.reduceLeDiff, Nat.reduceBEq, Nat.reduceDiv, Nat.reduceMod, Int.reduceToNat, Int.reduceNeg, Int.reduceAdd, Int.reduceSub, Int.reduceMul, Int.reduceEq, Int.reduceNe, Int.reduceLT, Int.reduceLE, Int.reduceGT, Int.reduceGE], by simp -implicitDefEqProofs (maxSteps := 1000000) (disch := omega) only [↓xsP, ↓vc_seq, xsQ, xsT, xsR, xsD, ↓reduceIte, reduceCtorEq, eq_self, ne_eq, imp_self, forall_const, Nat.reduceEqDiff, Nat.reduceAdd, Nat.reduceSub, Nat.reduceMul, Nat.reduceLT, Nat.reduceLeDiff, Nat.reduceBEq, Nat.reduceDiv, Nat.reduceMod, Int.reduceToNat, Int.reduceNeg, Int.reduceAdd, Int.reduceSub, Int.reduceMul, Int.reduceEq, Int.reduceNe, Int.reduceLT, Int.reduceLE, Int.reduceGT, Int.reduceGE], by simp -implicitDefEqProofs (maxSteps := 1000000) (disch := omega) only [↓xsP, ↓vc_seq, xsQ, xsT, xsR, xsD, ↓reduceIte, reduceCtorEq, eq_self, ne_eq, imp_self, forall_const, Nat.reduceEqDiff, Nat.reduceAdd, Nat.reduceSub, Nat.reduceMul, Nat.reduceLT, Nat.reduceLeDiff, Nat.reduceBEq, Nat.reduceDiv, Nat.reduceMod, Int.reduceToNat, Int.reduceNeg, Int.reduceAdd, Int.reduceSub, Int.reduceMul, Int.reduceEq, Int.reduceNe, Int.reduceLT, Int.reduceLE, Int.reduceGT, Int.reduceGE, Int.cast_ofNat_Int], rfl, rfl, by omega⟩
  · rintro k fr M' ⟨i, s, hi, rfl, h1, h8, h14, h15, h16, hM', hgo, hsl⟩
    have hMi : M' id = some (mapB s) := by rw [hM']; exact Mem.set_eq _ _ _
    simp -implicitDefEqProofs (maxSteps := 1000000) (disch := omega) only [↓xsP, ↓vc_seq, xsQ, xsT, xsR, xsD, ↓reduceIte, reduceCtorEq, eq_self, ne_eq, imp_self, forall_const, Nat.reduceEqDiff, Nat.reduceAdd, Nat.reduceSub, Nat.reduceMul, Nat.reduceLT, Nat.reduceLeDiff, Nat.reduceBEq, Nat.reduceDiv, Nat.reduceMod, Int.reduceToNat, Int.reduceNeg, Int.reduceAdd, Int.reduceSub, Int.reduceMul, Int.reduceEq, Int.reduceNe, Int.reduceLT, Int.reduceLE, Int.reduceGT, Int.reduceGE, h1, h8, h14, h15, h16]
    refine condI_prop (fun hlt => ?_) (fun hlt => ?_)
    · have hil : i < l.length := by omega
      simp -implicitDefEqProofs (maxSteps := 1000000) (disch := omega) only [↓xsP, ↓vc_seq, xsQ, xsT, xsR, xsD, ↓reduceIte, reduceCtorEq, eq_self, ne_eq, imp_self, forall_const, Nat.reduceEqDiff, Nat.reduceAdd, Nat.reduceSub, Nat.reduceMul, Nat.reduceLT, Nat.reduceLeDiff, Nat.reduceBEq, Nat.reduceDiv, Nat.reduceMod, Int.reduceToNat, Int.reduceNeg, Int.reduceAdd, Int.reduceSub, Int.reduceMul, Int.reduceEq, Int.reduceNe, Int.reduceLT, Int.reduceLE, Int.reduceGT, Int.reduceGE, h1, h8, h14, h15, h16]
      have hyi := hin _ (getD_mem' l default hil)
      have hd : l.drop i = l.getD i default :: l.drop (i + 1) := by
        rw [List.drop_eq_getElem_cons hil, List.getD_eq_getElem?_getD, List.getElem?_eq_getElem hil, Option.getD_some]
      rw [hd, goesO] at hgo
      generalize hy : l.getD i default = y at hyi hgo ⊢
      have hyr : (0 ≤ y ∧ y < (C.length : Int)) = True := eq_true hyi
      simp -implicitDefEqProofs (maxSteps := 1000000) (disch := omega) only [↓xsP, ↓vc_seq, xsQ, xsT, xsR, xsD, ↓reduceIte, reduceCtorEq, eq_self, ne_eq, imp_self, forall_const, Nat.reduceEqDiff, Nat.reduceAdd, Nat.reduceSub, Nat.reduceMul, Nat.reduceLT, Nat.reduceLeDiff, Nat.reduceBEq, Nat.reduceDiv, Nat.reduceMod, Int.reduceToNat, Int.reduceNeg, Int.reduceAdd, Int.reduceSub, Int.reduceMul, Int.reduceEq, Int.reduceNe, Int.reduceLT, Int.reduceLE, Int.reduceGT, Int.reduceGE, h1, h8, h14, h15, h16]
      rw [show C.getD y.toNat default = clAt C y from rfl]
      obtain ⟨c, hc⟩ : ∃ c, clAt C y = c := ⟨_, rfl⟩
      have hcr : C.getD y.toNat default = c := hc
      rw [hc] at hgo ⊢
      refine callI_of ((modelDo_spec s (by omega) c.op id _ hMi).mono ?_)
      rintro _ _ ⟨rfl, rfl⟩
      simp -implicitDefEqProofs (maxSteps := 1000000) (disch := omega) only [↓xsP, ↓vc_seq, xsQ, xsT, xsR, xsD, ↓reduceIte, reduceCtorEq, eq_self, ne_eq, imp_self, forall_const, Nat.reduceEqDiff, Nat.reduceAdd, Nat.reduceSub, Nat.reduceMul, Nat.reduceLT, Nat.reduceLeDiff, Nat.reduceBEq, Nat.reduceDiv, Nat.reduceMod, Int.reduceToNat, Int.reduceNeg, Int.reduceAdd, Int.reduceSub, Int.reduceMul, Int.reduceEq, Int.reduceNe, Int.reduceLT, Int.reduceLE, Int.reduceGT, Int.reduceGE, h1, h8, h14, h15, h16]
      have hM2 : M'.set id (mapB (doL s c.op)) = M.set id (mapB (doL s c.op)) := by rw [hM', Mem.set_set]
      rw [hM2]
      refine newI_intro fun id2 hid2 => ?_
      obtain ⟨h12, hid2'⟩ := bnd_new hid2
      have hdl := doA_lenO s c.op
      have hdd := doL_len s c.op
      simp -implicitDefEqProofs (maxSteps := 1000000) (disch := omega) only [↓xsP, ↓vc_seq, xsQ, xsT, xsR, xsD, ↓reduceIte, reduceCtorEq, eq_self, ne_eq, imp_self, forall_const, Nat.reduceEqDiff, Nat.reduceAdd, Nat.reduceSub, Nat.reduceMul, Nat.reduceLT, Nat.reduceLeDiff, Nat.reduceBEq, Nat.reduceDiv, Nat.reduceMod, Int.reduceToNat, Int.reduceNeg, Int.reduceAdd, Int.reduceSub, Int.reduceMul, Int.reduceEq, Int.reduceNe, Int.reduceLT, Int.reduceLE, Int.reduceGT, Int.reduceGE, h1, h8, h14, h15, h16]
      refine xquiet (by kernel_rfl) (by kernel_rfl) (by kernel_rfl) ?_
      simp -implicitDefEqProofs (maxSteps := 1000000) (disch := omega) only [↓xsP, ↓vc_seq, xsQ, xsT, xsR, xsD, ↓reduceIte, reduceCtorEq, eq_self, ne_eq, imp_self, forall_const, Nat.reduceEqDiff, Nat.reduceAdd, Nat.reduceSub, Nat.reduceMul, Nat.reduceLT, Nat.reduceLeDiff, Nat.reduceBEq, Nat.reduceDiv, Nat.reduceMod, Int.reduceToNat, Int.reduceNeg, Int.reduceAdd, Int.reduceSub, Int.reduceMul, Int.reduceEq, Int.reduceNe, Int.reduceLT, Int.reduceLE, Int.reduceGT, Int.reduceGE, h1, h8, h14, h15, h16, hyr, hcr]
      refine gI_prop (fun hf => ?_) (fun hf => ?_)
      · simp -implicitDefEqProofs (maxSteps := 1000000) (disch := omega) only [↓xsP, ↓vc_seq, xsQ, xsT, xsR, xsD, ↓reduceIte, reduceCtorEq, eq_self, ne_eq, imp_self, forall_const, Nat.reduceEqDiff, Nat.reduceAdd, Nat.reduceSub, Nat.reduceMul, Nat.reduceLT, Nat.reduceLeDiff, Nat.reduceBEq, Nat.reduceDiv, Nat.reduceMod, Int.reduceToNat, Int.reduceNeg, Int.reduceAdd, Int.reduceSub, Int.reduceMul, Int.reduceEq, Int.reduceNe, Int.reduceLT, Int.reduceLE, Int.reduceGT, Int.reduceGE, h1, h8, h14, h15, h16, hyr, hcr, hf]
        refine dcallI_of (sameAns_spec (doA s c.op) c.ans (by omega) _) ?_
        simp -implicitDefEqProofs (maxSteps := 1000000) (disch := omega) only [↓xsP, ↓vc_seq, xsQ, xsT, xsR, xsD, ↓reduceIte, reduceCtorEq, eq_self, ne_eq, imp_self, forall_const, Nat.reduceEqDiff, Nat.reduceAdd, Nat.reduceSub, Nat.reduceMul, Nat.reduceLT, Nat.reduceLeDiff, Nat.reduceBEq, Nat.reduceDiv, Nat.reduceMod, Int.reduceToNat, Int.reduceNeg, Int.reduceAdd, Int.reduceSub, Int.reduceMul, Int.reduceEq, Int.reduceNe, Int.reduceLT, Int.reduceLE, Int.reduceGT, Int.reduceGE, h1, h8, h14, h15, h16, hyr, hcr, hf]
        refine condI_intro (fun hb => ?_) (fun hb => ?_)
        · simp -implicitDefEqProofs (maxSteps := 1000000) (disch := omega) only [↓xsP, ↓vc_seq, xsQ, xsT, xsR, xsD, ↓reduceIte, reduceCtorEq, eq_self, ne_eq, imp_self, forall_const, Nat.reduceEqDiff, Nat.reduceAdd, Nat.reduceSub, Nat.reduceMul, Nat.reduceLT, Nat.reduceLeDiff, Nat.reduceBEq, Nat.reduceDiv, Nat.reduceMod, Int.reduceToNat, Int.reduceNeg, Int.reduceAdd, Int.reduceSub, Int.reduceMul, Int.reduceEq, Int.reduceNe, Int.reduceLT, Int.reduceLE, Int.reduceGT, Int.reduceGE, h1, h8, h14, h15, h16]
          have hne : doA s c.op ≠ c.ans := bof_not.1 (by simpa using hb)
          rw [if_pos ⟨hf, hne⟩] at hgo
          refine fin_ok (le_new (le_new (Mem.le_refl _) hid) hid2') ?_
          rw [hgo]
          exact ⟨rfl, rfl⟩
        · simp -implicitDefEqProofs (maxSteps := 1000000) (disch := omega) only [↓xsP, ↓vc_seq, xsQ, xsT, xsR, xsD, ↓reduceIte, reduceCtorEq, eq_self, ne_eq, imp_self, forall_const, Nat.reduceEqDiff, Nat.reduceAdd, Nat.reduceSub, Nat.reduceMul, Nat.reduceLT, Nat.reduceLeDiff, Nat.reduceBEq, Nat.reduceDiv, Nat.reduceMod, Int.reduceToNat, Int.reduceNeg, Int.reduceAdd, Int.reduceSub, Int.reduceMul, Int.reduceEq, Int.reduceNe, Int.reduceLT, Int.reduceLE, Int.reduceGT, Int.reduceGE, h1, h8, h14, h15, h16]
          have heq : doA s c.op = c.ans := bof_iff.1 (by simpa using hb)
          rw [if_neg (fun h => h.2 heq)] at hgo
          exact ⟨l.length - (i + 1), M.set id (mapB (doL s c.op)), by omega, le_new (Mem.le_refl _) hid2, i + 1, doL s c.op, by omega, rfl, by simp, rfl, hgo, by omega⟩
      · simp -implicitDefEqProofs (maxSteps := 1000000) (disch := omega) only [↓xsP, ↓vc_seq, xsQ, xsT, xsR, xsD, ↓reduceIte, reduceCtorEq, eq_self, ne_eq, imp_self, forall_const, Nat.reduceEqDiff, Nat.reduceAdd, Nat.reduceSub, Nat.reduceMul, Nat.reduceLT, Nat.reduceLeDiff, Nat.reduceBEq, Nat.reduceDiv, Nat.reduceMod, Int.reduceToNat, Int.reduceNeg, Int.reduceAdd, Int.reduceSub, Int.reduceMul, Int.reduceEq, Int.reduceNe, Int.reduceLT, Int.reduceLE, Int.reduceGT, Int.reduceGE, h1, h8, h14, h15, h16, hyr, hcr, hf]
        rw [if_neg (fun h => hf h.1)] at hgo
        exact ⟨l.length - (i + 1), M.set id (mapB (doL s c.op)), by omega, le_new (Mem.le_refl _) hid2, i + 1, doL s c.op, by omega, rfl, by simp, rfl, hgo, by omega⟩
    · simp -implicitDefEqProofs (maxSteps := 1000000) (disch := omega) only [↓xsP, ↓vc_seq, xsQ, xsT, xsR, xsD, ↓reduceIte, reduceCtorEq, eq_self, ne_eq, imp_self, forall_const, Nat.reduceEqDiff, Nat.reduceAdd, Nat.reduceSub, Nat.reduceMul, Nat.reduceLT, Nat.reduceLeDiff, Nat.reduceBEq, Nat.reduceDiv, Nat.reduceMod, Int.reduceToNat, Int.reduceNeg, Int.reduceAdd, Int.reduceSub, Int.reduceMul, Int.reduceEq, Int.reduceNe, Int.reduceLT, Int.reduceLE, Int.reduceGT, Int.reduceGE, h1, h8, h14, h15, h16]
      have hil : i = l.length := by omega
      rw [hil, List.drop_length, goesO] at hgo
      refine fin_ok (Mem.le_refl _) ?_
      rw [hgo]
      exact ⟨id, hid, rfl, hM'⟩

noncomputable def rightB (b : List Pr) (h : List Evt) (l : List Int) : Bool := bof (Rises b) && (okP h && (namedB (callsP h) l && timelyB (callsP h) l))
noncomputable def rightO (b : List Pr) (h : List Evt) (l : List Int) : Option (List Pr) := if rightB b h l = true then goesO (callsP h) l (putL b) else none
theorem named_in {C : List Cl} {l : List Int} (h : namedB C l = true) : ∀ x ∈ l, 0 ≤ x ∧ x < C.length := (bof_iff.1 h).1
theorem right_spec (b : List Pr) (h : List Evt) (l : List Int) (hb : b.length ≤ 100000) (hs : Small h) (hh : h.length ≤ 1000) (hl : l.length ≤ 1000) (M : Mem) :
    XCalls Go.Proofs.Try.prog 50 [.l (.sl (b.map Pr.row)), .l (.sl (h.map Evt.row)), .l (.sl (l.map irow))] M fun r M' =>
      match rightO b h l with
      | none => r = .tup [.l .nilp, .l (.bool false)] ∧ M' = M
      | some s => ∃ id, (∀ j, id ≤ j → M j = none) ∧ r = .tup [.l (.ptr id 0 0), .l (.bool true)] ∧ M' = M.set id (mapB s) := by
  refine xcalls_intro (rs := [.tmp 6, .tmp 7]) Go.Proofs.Try.func50 rfl (by kernel_rfl) rfl rfl (by kernel_rfl) (by simp) ?_
  have hcl := callsP_len h
  have hbad : rightB b h l = false → @finI prog (.tup [.l .nilp, .l (.bool false)]) M ⟨fun r M' =>
      match rightO b h l with
      | none => r = .tup [.l .nilp, .l (.bool false)] ∧ M' = M
      | some s => ∃ id, (∀ j, id ≤ j → M j = none) ∧ r = .tup [.l (.ptr id 0 0), .l (.bool true)] ∧ M' = M.set id (mapB s)⟩ := fun hr => by
    refine fin_ok (Mem.le_refl _) ?_
    rw [rightO, hr]
    exact ⟨rfl, rfl⟩
  simp -implicitDefEqProofs (maxSteps := 1000000) (disch := omega) only [↓xsP, ↓vc_seq, xsQ, xsT, xsR, xsD, ↓reduceIte, reduceCtorEq, eq_self, ne_eq, imp_self, forall_const, Nat.reduceEqDiff, Nat.reduceAdd, Nat.reduceSub, Nat.reduceMul, Nat.reduceLT, Nat.reduceLeDiff, Nat.reduceBEq, Nat.reduceDiv, Nat.reduceMod, Int.reduceToNat, Int.reduceNeg, Int.reduceAdd, Int.reduceSub, Int.reduceMul, Int.reduceEq, Int.reduceNe, Int.reduceLT, Int.reduceLE, Int.reduceGT, Int.reduceGE]
  refine call_of (may_spec b (by omega) _) ?_
  cases h1 : bof (Rises b) with
  | false =>
    simp -implicitDefEqProofs (maxSteps := 1000000) (disch := omega) only [↓xsP, ↓vc_seq, xsQ, xsT, xsR, xsD, ↓reduceIte, reduceCtorEq, eq_self, ne_eq, imp_self, forall_const, Nat.reduceEqDiff, Nat.reduceAdd, Nat.reduceSub, Nat.reduceMul, Nat.reduceLT, Nat.reduceLeDiff, Nat.reduceBEq, Nat.reduceDiv, Nat.reduceMod, Int.reduceToNat, Int.reduceNeg, Int.reduceAdd, Int.reduceSub, Int.reduceMul, Int.reduceEq, Int.reduceNe, Int.reduceLT, Int.reduceLE, Int.reduceGT, Int.reduceGE]
    exact hbad (by rw [rightB, h1]; rfl)
  | true =>
    simp -implicitDefEqProofs (maxSteps := 1000000) (disch := omega) only [↓xsP, ↓vc_seq, xsQ, xsT, xsR, xsD, ↓reduceIte, reduceCtorEq, eq_self, ne_eq, imp_self, forall_const, Nat.reduceEqDiff, Nat.reduceAdd, Nat.reduceSub, Nat.reduceMul, Nat.reduceLT, Nat.reduceLeDiff, Nat.reduceBEq, Nat.reduceDiv, Nat.reduceMod, Int.reduceToNat, Int.reduceNeg, Int.reduceAdd, Int.reduceSub, Int.reduceMul, Int.reduceEq, Int.reduceNe, Int.reduceLT, Int.reduceLE, Int.reduceGT, Int.reduceGE]
    refine call_of (pmay_spec h hs _) ?_
    cases h2 : okP h with
    | false =>
      simp -implicitDefEqProofs (maxSteps := 1000000) (disch := omega) only [↓xsP, ↓vc_seq, xsQ, xsT, xsR, xsD, ↓reduceIte, reduceCtorEq, eq_self, ne_eq, imp_self, forall_const, Nat.reduceEqDiff, Nat.reduceAdd, Nat.reduceSub, Nat.reduceMul, Nat.reduceLT, Nat.reduceLeDiff, Nat.reduceBEq, Nat.reduceDiv, Nat.reduceMod, Int.reduceToNat, Int.reduceNeg, Int.reduceAdd, Int.reduceSub, Int.reduceMul, Int.reduceEq, Int.reduceNe, Int.reduceLT, Int.reduceLE, Int.reduceGT, Int.reduceGE]
      exact hbad (by rw [rightB, h1, h2]; rfl)
    | true =>
      simp -implicitDefEqProofs (maxSteps := 1000000) (disch := omega) only [↓xsP, ↓vc_seq, xsQ, xsT, xsR, xsD, ↓reduceIte, reduceCtorEq, eq_self, ne_eq, imp_self, forall_const, Nat.reduceEqDiff, Nat.reduceAdd, Nat.reduceSub, Nat.reduceMul, Nat.reduceLT, Nat.reduceLeDiff, Nat.reduceBEq, Nat.reduceDiv, Nat.reduceMod, Int.reduceToNat, Int.reduceNeg, Int.reduceAdd, Int.reduceSub, Int.reduceMul, Int.reduceEq, Int.reduceNe, Int.reduceLT, Int.reduceLE, Int.reduceGT, Int.reduceGE]
      refine call_of (pcalls_spec h hs _) ?_
      simp -implicitDefEqProofs (maxSteps := 1000000) (disch := omega) only [↓xsP, ↓vc_seq, xsQ, xsT, xsR, xsD, ↓reduceIte, reduceCtorEq, eq_self, ne_eq, imp_self, forall_const, Nat.reduceEqDiff, Nat.reduceAdd, Nat.reduceSub, Nat.reduceMul, Nat.reduceLT, Nat.reduceLeDiff, Nat.reduceBEq, Nat.reduceDiv, Nat.reduceMod, Int.reduceToNat, Int.reduceNeg, Int.reduceAdd, Int.reduceSub, Int.reduceMul, Int.reduceEq, Int.reduceNe, Int.reduceLT, Int.reduceLE, Int.reduceGT, Int.reduceGE]
      refine callI_of ((named_spec (callsP h) l (by omega) hl _).mono ?_)
      rintro _ M ⟨⟨s, rfl⟩, rfl⟩
      cases h3 : namedB (callsP h) l with
      | false =>
        simp -implicitDefEqProofs (maxSteps := 1000000) (disch := omega) only [↓xsP, ↓vc_seq, xsQ, xsT, xsR, xsD, ↓reduceIte, reduceCtorEq, eq_self, ne_eq, imp_self, forall_const, Nat.reduceEqDiff, Nat.reduceAdd, Nat.reduceSub, Nat.reduceMul, Nat.reduceLT, Nat.reduceLeDiff, Nat.reduceBEq, Nat.reduceDiv, Nat.reduceMod, Int.reduceToNat, Int.reduceNeg, Int.reduceAdd, Int.reduceSub, Int.reduceMul, Int.reduceEq, Int.reduceNe, Int.reduceLT, Int.reduceLE, Int.reduceGT, Int.reduceGE]
        exact hbad (by rw [rightB, h1, h2, h3]; rfl)
      | true =>
        simp -implicitDefEqProofs (maxSteps := 1000000) (disch := omega) only [↓xsP, ↓vc_seq, xsQ, xsT, xsR, xsD, ↓reduceIte, reduceCtorEq, eq_self, ne_eq, imp_self, forall_const, Nat.reduceEqDiff, Nat.reduceAdd, Nat.reduceSub, Nat.reduceMul, Nat.reduceLT, Nat.reduceLeDiff, Nat.reduceBEq, Nat.reduceDiv, Nat.reduceMod, Int.reduceToNat, Int.reduceNeg, Int.reduceAdd, Int.reduceSub, Int.reduceMul, Int.reduceEq, Int.reduceNe, Int.reduceLT, Int.reduceLE, Int.reduceGT, Int.reduceGE]
        refine call_of (timely_spec (callsP h) l (by omega) hl (named_in h3) _) ?_
        cases h4 : timelyB (callsP h) l with
        | false =>
          simp -implicitDefEqProofs (maxSteps := 1000000) (disch := omega) only [↓xsP, ↓vc_seq, xsQ, xsT, xsR, xsD, ↓reduceIte, reduceCtorEq, eq_self, ne_eq, imp_self, forall_const, Nat.reduceEqDiff, Nat.reduceAdd, Nat.reduceSub, Nat.reduceMul, Nat.reduceLT, Nat.reduceLeDiff, Nat.reduceBEq, Nat.reduceDiv, Nat.reduceMod, Int.reduceToNat, Int.reduceNeg, Int.reduceAdd, Int.reduceSub, Int.reduceMul, Int.reduceEq, Int.reduceNe, Int.reduceLT, Int.reduceLE, Int.reduceGT, Int.reduceGE]
          exact hbad (by rw [rightB, h1, h2, h3, h4]; rfl)
        | true =>
          simp -implicitDefEqProofs (maxSteps := 1000000) (disch := omega) only [↓xsP, ↓vc_seq, xsQ, xsT, xsR, xsD, ↓reduceIte, reduceCtorEq, eq_self, ne_eq, imp_self, forall_const, Nat.reduceEqDiff, Nat.reduceAdd, Nat.reduceSub, Nat.reduceMul, Nat.reduceLT, Nat.reduceLeDiff, Nat.reduceBEq, Nat.reduceDiv, Nat.reduceMod, Int.reduceToNat, Int.reduceNeg, Int.reduceAdd, Int.reduceSub, Int.reduceMul, Int.reduceEq, Int.reduceNe, Int.reduceLT, Int.reduceLE, Int.reduceGT, Int.reduceGE]
          have hr : rightO b h l = goesO (callsP h) l (putL b) := by rw [rightO, if_pos (by rw [rightB, h1, h2, h3, h4]; rfl)]
          refine callI_of ((goes_spec b (callsP h) l hb (by omega) hl (named_in h3) _).mono ?_)
          intro r M' hk
          cases hg : goesO (callsP h) l (putL b) with
          | none =>
            rw [hg] at hk
            obtain ⟨rfl, rfl⟩ := hk
            simp -implicitDefEqProofs (maxSteps := 1000000) (disch := omega) only [↓xsP, ↓vc_seq, xsQ, xsT, xsR, xsD, ↓reduceIte, reduceCtorEq, eq_self, ne_eq, imp_self, forall_const, Nat.reduceEqDiff, Nat.reduceAdd, Nat.reduceSub, Nat.reduceMul, Nat.reduceLT, Nat.reduceLeDiff, Nat.reduceBEq, Nat.reduceDiv, Nat.reduceMod, Int.reduceToNat, Int.reduceNeg, Int.reduceAdd, Int.reduceSub, Int.reduceMul, Int.reduceEq, Int.reduceNe, Int.reduceLT, Int.reduceLE, Int.reduceGT, Int.reduceGE]
            refine fin_ok (Mem.le_refl _) ?_
            rw [hr, hg]
            exact ⟨rfl, rfl⟩
          | some s =>
            rw [hg] at hk
            obtain ⟨id, hid, rfl, rfl⟩ := hk
            simp -implicitDefEqProofs (maxSteps := 1000000) (disch := omega) only [↓xsP, ↓vc_seq, xsQ, xsT, xsR, xsD, ↓reduceIte, reduceCtorEq, eq_self, ne_eq, imp_self, forall_const, Nat.reduceEqDiff, Nat.reduceAdd, Nat.reduceSub, Nat.reduceMul, Nat.reduceLT, Nat.reduceLeDiff, Nat.reduceBEq, Nat.reduceDiv, Nat.reduceMod, Int.reduceToNat, Int.reduceNeg, Int.reduceAdd, Int.reduceSub, Int.reduceMul, Int.reduceEq, Int.reduceNe, Int.reduceLT, Int.reduceLE, Int.reduceGT, Int.reduceGE]
            refine fin_ok (Mem.le_refl _) ?_
            rw [hr, hg]
            exact ⟨id, hid, rfl, rfl⟩
theorem oright_spec (b : List Pr) (h : List Evt) (l : List Int) (hb : b.length ≤ 100000) (hs : Small h) (hh : h.length ≤ 1000) (hl : l.length ≤ 1000) (M : Mem) :
    XCalls Go.Proofs.Try.prog 29 [.l (.sl (b.map Pr.row)), .l (.sl (h.map Evt.row)), .l (.sl (l.map irow))] M fun r M' => r = .l (.bool (rightO b h l).isSome) ∧ M' = M := by
  refine xcalls_intro (rs := [.tmp 6]) Go.Proofs.Try.func29 rfl (by kernel_rfl) rfl rfl (by kernel_rfl) (by simp) ?_
  simp -implicitDefEqProofs (maxSteps := 1000000) (disch := omega) only [↓xsP, ↓vc_seq, xsQ, xsT, xsR, xsD, ↓reduceIte, reduceCtorEq, eq_self, ne_eq, imp_self, forall_const, Nat.reduceEqDiff, Nat.reduceAdd, Nat.reduceSub, Nat.reduceMul, Nat.reduceLT, Nat.reduceLeDiff, Nat.reduceBEq, Nat.reduceDiv, Nat.reduceMod, Int.reduceToNat, Int.reduceNeg, Int.reduceAdd, Int.reduceSub, Int.reduceMul, Int.reduceEq, Int.reduceNe, Int.reduceLT, Int.reduceLE, Int.reduceGT, Int.reduceGE]
  refine callI_of ((right_spec b h l hb hs hh hl _).mono ?_)
  intro r M' hk
  cases hg : rightO b h l with
  | none =>
    rw [hg] at hk
    obtain ⟨rfl, rfl⟩ := hk
    simp -implicitDefEqProofs (maxSteps := 1000000) (disch := omega) only [↓xsP, ↓vc_seq, xsQ, xsT, xsR, xsD, ↓reduceIte, reduceCtorEq, eq_self, ne_eq, imp_self, forall_const, Nat.reduceEqDiff, Nat.reduceAdd, Nat.reduceSub, Nat.reduceMul, Nat.reduceLT, Nat.reduceLeDiff, Nat.reduceBEq, Nat.reduceDiv, Nat.reduceMod, Int.reduceToNat, Int.reduceNeg, Int.reduceAdd, Int.reduceSub, Int.reduceMul, Int.reduceEq, Int.reduceNe, Int.reduceLT, Int.reduceLE, Int.reduceGT, Int.reduceGE]
    exact fin_ok (Mem.le_refl _) ⟨rfl, rfl⟩
  | some s =>
    rw [hg] at hk
    obtain ⟨id, hid, rfl, rfl⟩ := hk
    simp -implicitDefEqProofs (maxSteps := 1000000) (disch := omega) only [↓xsP, ↓vc_seq, xsQ, xsT, xsR, xsD, ↓reduceIte, reduceCtorEq, eq_self, ne_eq, imp_self, forall_const, Nat.reduceEqDiff, Nat.reduceAdd, Nat.reduceSub, Nat.reduceMul, Nat.reduceLT, Nat.reduceLeDiff, Nat.reduceBEq, Nat.reduceDiv, Nat.reduceMod, Int.reduceToNat, Int.reduceNeg, Int.reduceAdd, Int.reduceSub, Int.reduceMul, Int.reduceEq, Int.reduceNe, Int.reduceLT, Int.reduceLE, Int.reduceGT, Int.reduceGE]
    exact fin_ok (le_new (Mem.le_refl _) hid) ⟨rfl, rfl⟩
theorem goesO_len {C : List Cl} : ∀ {l : List Int} {s s' : List Pr}, goesO C l s = some s' → s'.length ≤ s.length + l.length
  | [], s, s', h => by simp only [goesO, Option.some.injEq] at h; subst h; simp
  | i :: r, s, s', h => by
    rw [goesO] at h
    split at h
    · cases h
    · have := goesO_len h
      have := doL_len s (clAt C i).op
      simp only [List.length_cons]
      omega
theorem rightO_len {b : List Pr} {h : List Evt} {l : List Int} {s : List Pr} (hr : rightO b h l = some s) : s.length ≤ b.length + l.length := by
  rw [rightO] at hr
  split at hr
  · have := goesO_len hr
    have := putL_len b
    omega
  · cases hr
theorem ends_spec (b : List Pr) (h : List Evt) (l : List Int) (hb : b.length ≤ 100000) (hs : Small h) (hh : h.length ≤ 1000) (hl : l.length ≤ 1000) (M : Mem) :
    XCalls Go.Proofs.Try.prog 27 [.l (.sl (b.map Pr.row)), .l (.sl (h.map Evt.row)), .l (.sl (l.map irow))] M fun r M' => r = .tup [.l (.sl (((rightO b h l).getD []).map Pr.row)), .l (.bool (rightO b h l).isSome)] ∧ M' = M := by
  refine xcalls_intro (rs := [.tmp 6, .tmp 7]) Go.Proofs.Try.func27 rfl (by kernel_rfl) rfl rfl (by kernel_rfl) (by simp) ?_
  simp -implicitDefEqProofs (maxSteps := 1000000) (disch := omega) only [↓xsP, ↓vc_seq, xsQ, xsT, xsR, xsD, ↓reduceIte, reduceCtorEq, eq_self, ne_eq, imp_self, forall_const, Nat.reduceEqDiff, Nat.reduceAdd, Nat.reduceSub, Nat.reduceMul, Nat.reduceLT, Nat.reduceLeDiff, Nat.reduceBEq, Nat.reduceDiv, Nat.reduceMod, Int.reduceToNat, Int.reduceNeg, Int.reduceAdd, Int.reduceSub, Int.reduceMul, Int.reduceEq, Int.reduceNe, Int.reduceLT, Int.reduceLE, Int.reduceGT, Int.reduceGE]
  refine callI_of ((right_spec b h l hb hs hh hl _).mono ?_)
  intro r M' hk
  cases hg : rightO b h l with
  | none =>
    rw [hg] at hk
    obtain ⟨rfl, rfl⟩ := hk
    simp -implicitDefEqProofs (maxSteps := 1000000) (disch := omega) only [↓xsP, ↓vc_seq, xsQ, xsT, xsR, xsD, ↓reduceIte, reduceCtorEq, eq_self, ne_eq, imp_self, forall_const, Nat.reduceEqDiff, Nat.reduceAdd, Nat.reduceSub, Nat.reduceMul, Nat.reduceLT, Nat.reduceLeDiff, Nat.reduceBEq, Nat.reduceDiv, Nat.reduceMod, Int.reduceToNat, Int.reduceNeg, Int.reduceAdd, Int.reduceSub, Int.reduceMul, Int.reduceEq, Int.reduceNe, Int.reduceLT, Int.reduceLE, Int.reduceGT, Int.reduceGE]
    refine call_of (pairs_nil _) ?_
    simp -implicitDefEqProofs (maxSteps := 1000000) (disch := omega) only [↓xsP, ↓vc_seq, xsQ, xsT, xsR, xsD, ↓reduceIte, reduceCtorEq, eq_self, ne_eq, imp_self, forall_const, Nat.reduceEqDiff, Nat.reduceAdd, Nat.reduceSub, Nat.reduceMul, Nat.reduceLT, Nat.reduceLeDiff, Nat.reduceBEq, Nat.reduceDiv, Nat.reduceMod, Int.reduceToNat, Int.reduceNeg, Int.reduceAdd, Int.reduceSub, Int.reduceMul, Int.reduceEq, Int.reduceNe, Int.reduceLT, Int.reduceLE, Int.reduceGT, Int.reduceGE]
    exact fin_ok (Mem.le_refl _) ⟨rfl, rfl⟩
  | some s =>
    have hsl := rightO_len hg
    rw [hg] at hk
    obtain ⟨id, hid, rfl, rfl⟩ := hk
    simp -implicitDefEqProofs (maxSteps := 1000000) (disch := omega) only [↓xsP, ↓vc_seq, xsQ, xsT, xsR, xsD, ↓reduceIte, reduceCtorEq, eq_self, ne_eq, imp_self, forall_const, Nat.reduceEqDiff, Nat.reduceAdd, Nat.reduceSub, Nat.reduceMul, Nat.reduceLT, Nat.reduceLeDiff, Nat.reduceBEq, Nat.reduceDiv, Nat.reduceMod, Int.reduceToNat, Int.reduceNeg, Int.reduceAdd, Int.reduceSub, Int.reduceMul, Int.reduceEq, Int.reduceNe, Int.reduceLT, Int.reduceLE, Int.reduceGT, Int.reduceGE]
    refine call_of (pairs_spec s (by omega) id _ (Mem.set_eq _ _ _)) ?_
    simp -implicitDefEqProofs (maxSteps := 1000000) (disch := omega) only [↓xsP, ↓vc_seq, xsQ, xsT, xsR, xsD, ↓reduceIte, reduceCtorEq, eq_self, ne_eq, imp_self, forall_const, Nat.reduceEqDiff, Nat.reduceAdd, Nat.reduceSub, Nat.reduceMul, Nat.reduceLT, Nat.reduceLeDiff, Nat.reduceBEq, Nat.reduceDiv, Nat.reduceMod, Int.reduceToNat, Int.reduceNeg, Int.reduceAdd, Int.reduceSub, Int.reduceMul, Int.reduceEq, Int.reduceNe, Int.reduceLT, Int.reduceLE, Int.reduceGT, Int.reduceGE]
    exact fin_ok (le_new (Mem.le_refl _) hid) ⟨rfl, rfl⟩
end Go.X
