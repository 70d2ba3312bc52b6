/- Texts joined: Vd Ve Ta Tb Tc Td Te Ma Tf Mb Mc Md Oc Ob Od Oe Yi Og Oh Oi Nb Nc. -/
import Derived.Lib.ItoaLen
import Derived.Test.YtlebigkdpalhjaaDoorY3
set_option linter.unusedVariables false
set_option linter.unusedSimpArgs false
set_option maxHeartbeats 20000000
set_option maxRecDepth 100000
namespace Go.X
open Go.Proofs.Tryd (prog)

def place (l : List Pr) (k : Int) : Int := pidx (fun p => decide (p.key = k)) l 0
theorem place_cases (l : List Pr) (k : Int) : (place l k = -1 ∧ ∀ p ∈ l, p.key ≠ k) ∨ ∃ i : Nat, i < l.length ∧ place l k = i ∧ (l.getD i default).key = k ∧ ∀ p ∈ l.take i, p.key ≠ k := by
  rcases pidx_cases (fun p => decide (p.key = k)) l 0 with ⟨h1, h2⟩ | ⟨i, hi, h1, h2, h3⟩
  · exact .inl ⟨h1, fun p hp => by simpa using h2 p hp⟩
  · exact .inr ⟨i, hi, by rw [place, h1]; omega, by simpa using h2, fun p hp => by simpa using h3 p hp⟩
def ansAt (l : List Pr) (i : Int) : Ans := if 0 ≤ i then ⟨0, true, l.getD i.toNat default, 0, []⟩ else ans0
def oneL (l : List Pr) (op : Opn) : List Pr :=
  if op.kind = 1 ∨ (op.kind = 2 ∧ place l op.key < 0) then withL l ⟨op.key, op.val⟩
  else if op.kind = 3 ∧ 0 ≤ place l op.key then l.take (place l op.key).toNat ++ l.drop ((place l op.key).toNat + 1)
  else l
/-- An answer's cells, its pairs being nil. -/
def arow (a : Ans) : List Lf := [.int .i64 a.err, .bool a.ok, .int .i64 a.pair.key, .int .i64 a.pair.val, .int .i64 a.n, .nils]
theorem arow_wk (a : Ans) (h : a.pairs = []) : (arow a).map wkL = a.row := by simp [arow, wkL, Ans.row, h]
theorem ansAt_pairs (l : List Pr) (i : Int) : (ansAt l i).pairs = [] := by unfold ansAt; split <;> rfl
theorem one_spec (l : List Pr) (hl : l.length ≤ 1000001) (op : Opn) (M : Mem) :
    XCalls Go.Proofs.Tryd.prog 60 [.l (.sl (l.map Pr.row)), .agg op.row] M fun r M' => r = .tup [.l (.sl ((oneL l op).map Pr.row)), .agg (ansAt l (place l op.key)).row] ∧ M' = M := by
  refine xcalls_intro (rs := [.tmp 4, .cell 5 34]) Go.Proofs.Tryd.func60 rfl (by kernel_rfl) rfl rfl (by kernel_rfl) (by simp) ?_
  refine vc_seq_of ?_
  simp -implicitDefEqProofs (maxSteps := 1000000) (disch := omega) only [↓xsP, xsQ, xsT, xsR, xsD, ↓reduceIte, reduceCtorEq, eq_self, ne_eq, imp_self, forall_const, Nat.reduceEqDiff, Nat.reduceAdd, Nat.reduceSub, Nat.reduceMul, Nat.reduceLT, Nat.reduceLeDiff, Nat.reduceBEq, Nat.reduceDiv, Nat.reduceMod, Int.reduceToNat, Int.reduceNeg, Int.reduceAdd, Int.reduceSub, Int.reduceMul, Int.reduceEq, Int.reduceNe, Int.reduceLT, Int.reduceLE, Int.reduceGT, Int.reduceGE]
  refine newI_intro fun id3 hid3 => ?_
  simp -implicitDefEqProofs (maxSteps := 1000000) (disch := omega) only [↓xsP, xsQ, xsT, xsR, xsD, ↓reduceIte, reduceCtorEq, eq_self, ne_eq, imp_self, forall_const, Nat.reduceEqDiff, Nat.reduceAdd, Nat.reduceSub, Nat.reduceMul, Nat.reduceLT, Nat.reduceLeDiff, Nat.reduceBEq, Nat.reduceDiv, Nat.reduceMod, Int.reduceToNat, Int.reduceNeg, Int.reduceAdd, Int.reduceSub, Int.reduceMul, Int.reduceEq, Int.reduceNe, Int.reduceLT, Int.reduceLE, Int.reduceGT, Int.reduceGE]
  refine newI_intro fun id5 hid5 => ?_
  obtain ⟨h35, hid5⟩ := bnd_new hid5
  simp -implicitDefEqProofs (maxSteps := 1000000) (disch := omega) only [↓xsP, xsQ, xsT, xsR, xsD, ↓reduceIte, reduceCtorEq, eq_self, ne_eq, imp_self, forall_const, Nat.reduceEqDiff, Nat.reduceAdd, Nat.reduceSub, Nat.reduceMul, Nat.reduceLT, Nat.reduceLeDiff, Nat.reduceBEq, Nat.reduceDiv, Nat.reduceMod, Int.reduceToNat, Int.reduceNeg, Int.reduceAdd, Int.reduceSub, Int.reduceMul, Int.reduceEq, Int.reduceNe, Int.reduceLT, Int.reduceLE, Int.reduceGT, Int.reduceGE]
  refine vc_seq_of ?_
  simp -implicitDefEqProofs (maxSteps := 1000000) (disch := omega) only [↓xsP, xsQ, xsT, xsR, xsD, ↓reduceIte, reduceCtorEq, eq_self, ne_eq, imp_self, forall_const, Nat.reduceEqDiff, Nat.reduceAdd, Nat.reduceSub, Nat.reduceMul, Nat.reduceLT, Nat.reduceLeDiff, Nat.reduceBEq, Nat.reduceDiv, Nat.reduceMod, Int.reduceToNat, Int.reduceNeg, Int.reduceAdd, Int.reduceSub, Int.reduceMul, Int.reduceEq, Int.reduceNe, Int.reduceLT, Int.reduceLE, Int.reduceGT, Int.reduceGE]
  refine newI_intro fun id6 hid6 => ?_
  obtain ⟨h56, hid6⟩ := bnd_new hid6
  obtain ⟨h36, hid6⟩ := bnd_new hid6
  simp -implicitDefEqProofs (maxSteps := 1000000) (disch := omega) only [↓xsP, xsQ, xsT, xsR, xsD, ↓reduceIte, reduceCtorEq, eq_self, ne_eq, imp_self, forall_const, Nat.reduceEqDiff, Nat.reduceAdd, Nat.reduceSub, Nat.reduceMul, Nat.reduceLT, Nat.reduceLeDiff, Nat.reduceBEq, Nat.reduceDiv, Nat.reduceMod, Int.reduceToNat, Int.reduceNeg, Int.reduceAdd, Int.reduceSub, Int.reduceMul, Int.reduceEq, Int.reduceNe, Int.reduceLT, Int.reduceLE, Int.reduceGT, Int.reduceGE]
  refine vc_seq_of ?_
  simp -implicitDefEqProofs (maxSteps := 1000000) (disch := omega) only [↓xsP, xsQ, xsT, xsR, xsD, ↓reduceIte, reduceCtorEq, eq_self, ne_eq, imp_self, forall_const, Nat.reduceEqDiff, Nat.reduceAdd, Nat.reduceSub, Nat.reduceMul, Nat.reduceLT, Nat.reduceLeDiff, Nat.reduceBEq, Nat.reduceDiv, Nat.reduceMod, Int.reduceToNat, Int.reduceNeg, Int.reduceAdd, Int.reduceSub, Int.reduceMul, Int.reduceEq, Int.reduceNe, Int.reduceLT, Int.reduceLE, Int.reduceGT, Int.reduceGE]
  refine call_of (find_spec l (by omega) op.key _) ?_
  simp -implicitDefEqProofs (maxSteps := 1000000) (disch := omega) only [↓xsP, xsQ, xsT, xsR, xsD, ↓reduceIte, reduceCtorEq, eq_self, ne_eq, imp_self, forall_const, Nat.reduceEqDiff, Nat.reduceAdd, Nat.reduceSub, Nat.reduceMul, Nat.reduceLT, Nat.reduceLeDiff, Nat.reduceBEq, Nat.reduceDiv, Nat.reduceMod, Int.reduceToNat, Int.reduceNeg, Int.reduceAdd, Int.reduceSub, Int.reduceMul, Int.reduceEq, Int.reduceNe, Int.reduceLT, Int.reduceLE, Int.reduceGT, Int.reduceGE]
  have hend : ∀ (l' : List Pr) (N : Mem), M.le N → (N id5 = some (.cells 34 [arow (ansAt l (place l op.key))] 0)) → l' = oneL l op →
      @finI prog (.tup [.l (.sl (l'.map Pr.row)), .agg (arow (ansAt l (place l op.key)))]) N ⟨fun r M' => r = .tup [.l (.sl ((oneL l op).map Pr.row)), .agg (ansAt l (place l op.key)).row] ∧ M' = M⟩ := fun l' N hle _ h => by
    subst h
    refine finI_of (XFin.wk (XFin.le hle ⟨?_, rfl⟩))
    simp only [wkT, List.map_cons, List.map_nil, wkA, wkL]
    rw [arow_wk _ (ansAt_pairs _ _)]
  have hpc := place_cases l op.key
  have hp1 : pidx (fun p => decide (p.key = op.key)) l 0 = place l op.key := rfl
  rw [hp1]
  refine vc_cut (fun fr N => fr 0 = .l (.sl (l.map Pr.row)) ∧ fr 3 = .l (.ptr id3 0 0) ∧ fr 5 = .l (.ptr id5 0 0) ∧ fr 6 = .l (.ptr id6 0 0) ∧ fr 7 = .l (.int .i64 (place l op.key)) ∧ M.le N ∧
    N id3 = some (.cells 25 [op.row] 0) ∧ N id5 = some (.cells 34 [arow ans0] 0) ∧ N id6 = some (.cells 34 [arow (ansAt l (place l op.key))] 0)) ?_ ?_
  · have hpl : place l op.key = -1 ∨ (0 ≤ place l op.key ∧ place l op.key < l.length) := by
      rcases hpc with ⟨h, _⟩ | ⟨i, hi, h, _⟩
      · exact .inl h
      · exact .inr (by omega)
    have hz : arow ans0 = [.int .i64 0, .bool false, .int .i64 0, .int .i64 0, .int .i64 0, .nils] := rfl
    generalize hN : (((M.set id3 _).set id5 _).set id6 _ : Mem) = N
    have hN3 : N id3 = some (.cells 25 [op.row] 0) := by rw [← hN, Mem.set_ne _ _ _ _ (by omega), Mem.set_ne _ _ _ _ (by omega)]; exact Mem.set_eq _ _ _
    have hN5 : N id5 = some (.cells 34 [arow ans0] 0) := by rw [← hN, Mem.set_ne _ _ _ _ (by omega)]; exact Mem.set_eq _ _ _
    have hN6 : N id6 = some (.cells 34 [arow ans0] 0) := by rw [← hN]; exact Mem.set_eq _ _ _
    have hMN : M.le N := by rw [← hN]; exact le_new (le_new (le_new (Mem.le_refl _) hid3) hid5) hid6
    have hN6' : N id6 = some (.cells 34 [[.int .i64 0, .bool false, .int .i64 0, .int .i64 0, .int .i64 0, .nils]] 0) := hN6
    clear hN
    simp -implicitDefEqProofs (maxSteps := 1000000) (disch := omega) only [↓xsP, ↓vc_seq, xsQ, xsT, xsR, xsD, ↓reduceIte, reduceCtorEq, eq_self, ne_eq, imp_self, forall_const, Nat.reduceEqDiff, Nat.reduceAdd, Nat.reduceSub, Nat.reduceMul, Nat.reduceLT, Nat.reduceLeDiff, Nat.reduceBEq, Nat.reduceDiv, Nat.reduceMod, Int.reduceToNat, Int.reduceNeg, Int.reduceAdd, Int.reduceSub, Int.reduceMul, Int.reduceEq, Int.reduceNe, Int.reduceLT, Int.reduceLE, Int.reduceGT, Int.reduceGE]
    refine condI_prop (fun hc => ?_) (fun hc => ?_)
    · have hp0 : 0 ≤ place l op.key := hc
      have hp2 : place l op.key < l.length := by omega
      simp -implicitDefEqProofs (maxSteps := 1000000) (disch := omega) only [↓xsP, ↓vc_seq, xsQ, xsT, xsR, xsD, ↓reduceIte, reduceCtorEq, eq_self, ne_eq, imp_self, forall_const, Nat.reduceEqDiff, Nat.reduceAdd, Nat.reduceSub, Nat.reduceMul, Nat.reduceLT, Nat.reduceLeDiff, Nat.reduceBEq, Nat.reduceDiv, Nat.reduceMod, Int.reduceToNat, Int.reduceNeg, Int.reduceAdd, Int.reduceSub, Int.reduceMul, Int.reduceEq, Int.reduceNe, Int.reduceLT, Int.reduceLE, Int.reduceGT, Int.reduceGE, hN6']
      refine ⟨Mem.le_set hMN (hid6 _ (Nat.le_refl _)), ?_, ?_, ?_⟩
      · exact hN3
      · exact hN5
      · rw [ansAt, if_pos hp0]; rfl
    · simp -implicitDefEqProofs (maxSteps := 1000000) (disch := omega) only [↓xsP, ↓vc_seq, xsQ, xsT, xsR, xsD, ↓reduceIte, reduceCtorEq, eq_self, ne_eq, imp_self, forall_const, Nat.reduceEqDiff, Nat.reduceAdd, Nat.reduceSub, Nat.reduceMul, Nat.reduceLT, Nat.reduceLeDiff, Nat.reduceBEq, Nat.reduceDiv, Nat.reduceMod, Int.reduceToNat, Int.reduceNeg, Int.reduceAdd, Int.reduceSub, Int.reduceMul, Int.reduceEq, Int.reduceNe, Int.reduceLT, Int.reduceLE, Int.reduceGT, Int.reduceGE]
      have hp0 : ¬ 0 ≤ place l op.key := hc
      refine ⟨hMN, hN3, hN5, ?_⟩
      rw [ansAt, if_neg hp0]; exact hN6
  · rintro fr N ⟨h0, h3, h5, h6, h7, hMN, hN3, hN5, hN6⟩
    have hpl : place l op.key = -1 ∨ (0 ≤ place l op.key ∧ place l op.key < l.length) := by
      rcases hpc with ⟨h, _⟩ | ⟨i, hi, h, _⟩
      · exact .inl h
      · exact .inr (by omega)
    have hN3' : N id3 = some (.cells 25 [[.int .i64 op.kind, .int .i64 op.key, .int .i64 op.to, .int .i64 op.val]] 0) := hN3
    refine vc_seq_of ?_
    simp -implicitDefEqProofs (maxSteps := 1000000) (disch := omega) only [↓xsP, xsQ, xsT, xsR, xsD, ↓reduceIte, reduceCtorEq, eq_self, ne_eq, imp_self, forall_const, Nat.reduceEqDiff, Nat.reduceAdd, Nat.reduceSub, Nat.reduceMul, Nat.reduceLT, Nat.reduceLeDiff, Nat.reduceBEq, Nat.reduceDiv, Nat.reduceMod, Int.reduceToNat, Int.reduceNeg, Int.reduceAdd, Int.reduceSub, Int.reduceMul, Int.reduceEq, Int.reduceNe, Int.reduceLT, Int.reduceLE, Int.reduceGT, Int.reduceGE, h0]
    refine vc_cut (fun fr N' => N' = N ∧ fr 0 = .l (.sl (l.map Pr.row)) ∧ fr 3 = .l (.ptr id3 0 0) ∧ fr 5 = .l (.ptr id5 0 0) ∧ fr 6 = .l (.ptr id6 0 0) ∧ fr 7 = .l (.int .i64 (place l op.key)) ∧ fr 19 = .l (.bool (decide (op.kind = 1 ∨ (op.kind = 2 ∧ place l op.key < 0))))) ?_ ?_
    · by_cases k1 : op.kind = 1
      · have q1 : (op.kind = 1) = True := eq_true k1
        simp -implicitDefEqProofs (maxSteps := 1000000) (disch := omega) only [↓xsP, ↓vc_seq, xsQ, xsT, xsR, xsD, ↓reduceIte, reduceCtorEq, eq_self, ne_eq, imp_self, forall_const, Nat.reduceEqDiff, Nat.reduceAdd, Nat.reduceSub, Nat.reduceMul, Nat.reduceLT, Nat.reduceLeDiff, Nat.reduceBEq, Nat.reduceDiv, Nat.reduceMod, Int.reduceToNat, Int.reduceNeg, Int.reduceAdd, Int.reduceSub, Int.reduceMul, Int.reduceEq, Int.reduceNe, Int.reduceLT, Int.reduceLE, Int.reduceGT, Int.reduceGE, h0, h3, h5, h6, h7, hN3', q1]
      · have q1 : (op.kind = 1) = False := eq_false k1
        by_cases k2 : op.kind = 2
        · have q2 : (op.kind = 2) = True := eq_true k2
          simp -implicitDefEqProofs (maxSteps := 1000000) (disch := omega) only [↓xsP, ↓vc_seq, xsQ, xsT, xsR, xsD, ↓reduceIte, reduceCtorEq, eq_self, ne_eq, imp_self, forall_const, Nat.reduceEqDiff, Nat.reduceAdd, Nat.reduceSub, Nat.reduceMul, Nat.reduceLT, Nat.reduceLeDiff, Nat.reduceBEq, Nat.reduceDiv, Nat.reduceMod, Int.reduceToNat, Int.reduceNeg, Int.reduceAdd, Int.reduceSub, Int.reduceMul, Int.reduceEq, Int.reduceNe, Int.reduceLT, Int.reduceLE, Int.reduceGT, Int.reduceGE, h0, h3, h5, h6, h7, hN3', q1, q2, false_or]
        · have q2 : (op.kind = 2) = False := eq_false k2
          simp -implicitDefEqProofs (maxSteps := 1000000) (disch := omega) only [↓xsP, ↓vc_seq, xsQ, xsT, xsR, xsD, ↓reduceIte, reduceCtorEq, eq_self, ne_eq, imp_self, forall_const, Nat.reduceEqDiff, Nat.reduceAdd, Nat.reduceSub, Nat.reduceMul, Nat.reduceLT, Nat.reduceLeDiff, Nat.reduceBEq, Nat.reduceDiv, Nat.reduceMod, Int.reduceToNat, Int.reduceNeg, Int.reduceAdd, Int.reduceSub, Int.reduceMul, Int.reduceEq, Int.reduceNe, Int.reduceLT, Int.reduceLE, Int.reduceGT, Int.reduceGE, h0, h3, h5, h6, h7, hN3', q1, q2, false_or]
    · clear h0 h3 h5 h6 h7
      rintro fr N' ⟨rfl, h0, h3, h5, h6, h7, h19⟩
      simp -implicitDefEqProofs (maxSteps := 1000000) (disch := omega) only [↓xsP, xsQ, xsT, xsR, xsD, ↓reduceIte, reduceCtorEq, eq_self, ne_eq, imp_self, forall_const, Nat.reduceEqDiff, Nat.reduceAdd, Nat.reduceSub, Nat.reduceMul, Nat.reduceLT, Nat.reduceLeDiff, Nat.reduceBEq, Nat.reduceDiv, Nat.reduceMod, Int.reduceToNat, Int.reduceNeg, Int.reduceAdd, Int.reduceSub, Int.reduceMul, Int.reduceEq, Int.reduceNe, Int.reduceLT, Int.reduceLE, Int.reduceGT, Int.reduceGE, h19]
      refine condI_prop (fun hc => ?_) (fun hc => ?_)
      · refine vc_seq_of ?_
        simp -implicitDefEqProofs (maxSteps := 1000000) (disch := omega) only [↓xsP, xsQ, xsT, xsR, xsD, ↓reduceIte, reduceCtorEq, eq_self, ne_eq, imp_self, forall_const, Nat.reduceEqDiff, Nat.reduceAdd, Nat.reduceSub, Nat.reduceMul, Nat.reduceLT, Nat.reduceLeDiff, Nat.reduceBEq, Nat.reduceDiv, Nat.reduceMod, Int.reduceToNat, Int.reduceNeg, Int.reduceAdd, Int.reduceSub, Int.reduceMul, Int.reduceEq, Int.reduceNe, Int.reduceLT, Int.reduceLE, Int.reduceGT, Int.reduceGE, h0, h3, h5, h6, h7]
        refine xwrite (fun n0 => [ (9, id5)]) [9] [] [[], [], [], [], [], [], [], [], [], []] (by kernel_rfl) (by kernel_rfl) (by kernel_rfl) (by kernel_rfl) (fun n0 hn0 => ⟨rfl, ?_, ?_⟩)
        · exact TOk_cons (.inl (lt_of_bnd hn0 hN5)) (TOk_nil _ _)
        · have h5n := lt_of_bnd hn0 hN5
          have h3n := lt_of_bnd hn0 hN3
          have h6n := lt_of_bnd hn0 hN6
          simp -implicitDefEqProofs (maxSteps := 1000000) (disch := omega) only [↓xsP, ↓vc_seq, xsQ, xsT, xsR, xsD, ↓reduceIte, reduceCtorEq, eq_self, ne_eq, imp_self, forall_const, Nat.reduceEqDiff, Nat.reduceAdd, Nat.reduceSub, Nat.reduceMul, Nat.reduceLT, Nat.reduceLeDiff, Nat.reduceBEq, Nat.reduceDiv, Nat.reduceMod, Int.reduceToNat, Int.reduceNeg, Int.reduceAdd, Int.reduceSub, Int.reduceMul, Int.reduceEq, Int.reduceNe, Int.reduceLT, Int.reduceLE, Int.reduceGT, Int.reduceGE, h0, h3, h5, h6, h7, hN3']
          refine wcallI_eff (v := .l (.sl ((withL l ⟨op.key, op.val⟩).map Pr.row))) (e := []) (fun M' hle => XCalls.mono (with_spec l hl ⟨op.key, op.val⟩ M') (by rintro _ _ ⟨rfl, rfl⟩; exact ⟨rfl, Mem.le_refl _⟩)) ?_
          simp -implicitDefEqProofs (maxSteps := 1000000) (disch := omega) only [↓xsP, ↓vc_seq, xsQ, xsT, xsR, xsD, ↓reduceIte, reduceCtorEq, eq_self, ne_eq, imp_self, forall_const, Nat.reduceEqDiff, Nat.reduceAdd, Nat.reduceSub, Nat.reduceMul, Nat.reduceLT, Nat.reduceLeDiff, Nat.reduceBEq, Nat.reduceDiv, Nat.reduceMod, Int.reduceToNat, Int.reduceNeg, Int.reduceAdd, Int.reduceSub, Int.reduceMul, Int.reduceEq, Int.reduceNe, Int.reduceLT, Int.reduceLE, Int.reduceGT, Int.reduceGE, h0, h3, h5, h6, h7, hN5, hN6, arow]
          refine hend _ _ (Mem.le_set hMN (hid5 _ (Nat.le_refl _))) (Mem.set_eq _ _ _) ?_
          rw [oneL, if_pos hc]
      · refine vc_cut (fun fr N => N = N' ∧ fr 0 = .l (.sl (l.map Pr.row)) ∧ fr 3 = .l (.ptr id3 0 0) ∧ fr 5 = .l (.ptr id5 0 0) ∧ fr 6 = .l (.ptr id6 0 0) ∧ fr 7 = .l (.int .i64 (place l op.key)) ∧ fr 40 = .l (.bool (decide (op.kind = 3 ∧ 0 ≤ place l op.key)))) ?_ ?_
        · by_cases k3 : op.kind = 3
          · have q3 : (op.kind = 3) = True := eq_true k3
            simp -implicitDefEqProofs (maxSteps := 1000000) (disch := omega) only [↓xsP, ↓vc_seq, xsQ, xsT, xsR, xsD, ↓reduceIte, reduceCtorEq, eq_self, ne_eq, imp_self, forall_const, Nat.reduceEqDiff, Nat.reduceAdd, Nat.reduceSub, Nat.reduceMul, Nat.reduceLT, Nat.reduceLeDiff, Nat.reduceBEq, Nat.reduceDiv, Nat.reduceMod, Int.reduceToNat, Int.reduceNeg, Int.reduceAdd, Int.reduceSub, Int.reduceMul, Int.reduceEq, Int.reduceNe, Int.reduceLT, Int.reduceLE, Int.reduceGT, Int.reduceGE, h0, h3, h5, h6, h7, hN3', q3]
          · have q3 : (op.kind = 3) = False := eq_false k3
            simp -implicitDefEqProofs (maxSteps := 1000000) (disch := omega) only [↓xsP, ↓vc_seq, xsQ, xsT, xsR, xsD, ↓reduceIte, reduceCtorEq, eq_self, ne_eq, imp_self, forall_const, Nat.reduceEqDiff, Nat.reduceAdd, Nat.reduceSub, Nat.reduceMul, Nat.reduceLT, Nat.reduceLeDiff, Nat.reduceBEq, Nat.reduceDiv, Nat.reduceMod, Int.reduceToNat, Int.reduceNeg, Int.reduceAdd, Int.reduceSub, Int.reduceMul, Int.reduceEq, Int.reduceNe, Int.reduceLT, Int.reduceLE, Int.reduceGT, Int.reduceGE, h0, h3, h5, h6, h7, hN3', q3]
        · clear h0 h3 h5 h6 h7 h19
          rintro fr N ⟨rfl, h0, h3, h5, h6, h7, h40⟩
          simp -implicitDefEqProofs (maxSteps := 1000000) (disch := omega) only [↓xsP, xsQ, xsT, xsR, xsD, ↓reduceIte, reduceCtorEq, eq_self, ne_eq, imp_self, forall_const, Nat.reduceEqDiff, Nat.reduceAdd, Nat.reduceSub, Nat.reduceMul, Nat.reduceLT, Nat.reduceLeDiff, Nat.reduceBEq, Nat.reduceDiv, Nat.reduceMod, Int.reduceToNat, Int.reduceNeg, Int.reduceAdd, Int.reduceSub, Int.reduceMul, Int.reduceEq, Int.reduceNe, Int.reduceLT, Int.reduceLE, Int.reduceGT, Int.reduceGE, h40]
          refine condI_prop (fun hc2 => ?_) (fun hc2 => ?_)
          · refine vc_seq_of ?_
            simp -implicitDefEqProofs (maxSteps := 1000000) (disch := omega) only [↓xsP, xsQ, xsT, xsR, xsD, ↓reduceIte, reduceCtorEq, eq_self, ne_eq, imp_self, forall_const, Nat.reduceEqDiff, Nat.reduceAdd, Nat.reduceSub, Nat.reduceMul, Nat.reduceLT, Nat.reduceLeDiff, Nat.reduceBEq, Nat.reduceDiv, Nat.reduceMod, Int.reduceToNat, Int.reduceNeg, Int.reduceAdd, Int.reduceSub, Int.reduceMul, Int.reduceEq, Int.reduceNe, Int.reduceLT, Int.reduceLE, Int.reduceGT, Int.reduceGE, h0, h3, h5, h6, h7]
            refine xwrite (fun n0 => [ (11, id5)]) [11] [7] [[], [], [], [], [], [], [], [], [], [7], [], []] (by kernel_rfl) (by kernel_rfl) (by kernel_rfl) (by kernel_rfl) (fun n0 hn0 => ⟨rfl, ?_, ?_⟩)
            · exact TOk_cons (.inl (lt_of_bnd hn0 hN5)) (TOk_nil _ _)
            · have h5n := lt_of_bnd hn0 hN5
              have h3n := lt_of_bnd hn0 hN3
              have h6n := lt_of_bnd hn0 hN6
              obtain ⟨i, hi⟩ := Int.eq_ofNat_of_zero_le hc2.2
              have hin : i < l.length := by omega
              have q0 : (0 ≤ (i : Int)) = True := eq_true (by omega)
              have q1 : (0 ≤ (i : Int) + 1) = True := eq_true (by omega)
              have q2 : (i ≤ l.length) = True := eq_true (by omega)
              have q3 : (i + 1 ≤ l.length) = True := eq_true (by omega)
              have hrows : (∀ r, r ∈ l.map Pr.row → r.length = 2) = True := eq_true (rows2 l)
              have hdr : List.take (l.length - (i + 1)) (List.drop (i + 1) (l.map Pr.row)) = (l.drop (i + 1)).map Pr.row := by
                rw [List.take_of_length_le (by simp), List.map_drop]
              simp -implicitDefEqProofs (maxSteps := 1000000) (disch := omega) only [↓xsP, ↓vc_seq, xsQ, xsT, xsR, xsD, ↓reduceIte, reduceCtorEq, eq_self, ne_eq, imp_self, forall_const, Nat.reduceEqDiff, Nat.reduceAdd, Nat.reduceSub, Nat.reduceMul, Nat.reduceLT, Nat.reduceLeDiff, Nat.reduceBEq, Nat.reduceDiv, Nat.reduceMod, Int.reduceToNat, Int.reduceNeg, Int.reduceAdd, Int.reduceSub, Int.reduceMul, Int.reduceEq, Int.reduceNe, Int.reduceLT, Int.reduceLE, Int.reduceGT, Int.reduceGE, h0, h3, h5, h6, h7, hN3', hi, q0, q1, q2, q3, hrows, hdr, ← List.map_take]
              refine ⟨.inl (by decide), ?_⟩
              have hL : [l.take i, l.drop (i + 1)].flatten = oneL l op := by
                rw [oneL, if_neg hc, if_pos hc2, hi]
                simp
              refine wcallI_eff (v := .l (.sl ((oneL l op).map Pr.row))) (e := []) (fun M' hle => ?_) ?_
              · have hcc := concat_spec [l.take i, l.drop (i + 1)] [.sl ((l.take i).map Pr.row), .sl ((l.drop (i + 1)).map Pr.row)] rfl (by simp) (by simp; omega) (n0 + 7) M' (hle _ _ (Mem.set_eq _ _ _)) (fun j hj => by
                  match j, hj with
                  | 0, _ => exact .inl rfl
                  | 1, _ => exact .inl rfl)
                rw [hL] at hcc
                refine XCalls.mono hcc ?_
                rintro _ _ ⟨rfl, rfl⟩
                exact ⟨rfl, Mem.le_refl _⟩
              · simp -implicitDefEqProofs (maxSteps := 1000000) (disch := omega) only [↓xsP, ↓vc_seq, xsQ, xsT, xsR, xsD, ↓reduceIte, reduceCtorEq, eq_self, ne_eq, imp_self, forall_const, Nat.reduceEqDiff, Nat.reduceAdd, Nat.reduceSub, Nat.reduceMul, Nat.reduceLT, Nat.reduceLeDiff, Nat.reduceBEq, Nat.reduceDiv, Nat.reduceMod, Int.reduceToNat, Int.reduceNeg, Int.reduceAdd, Int.reduceSub, Int.reduceMul, Int.reduceEq, Int.reduceNe, Int.reduceLT, Int.reduceLE, Int.reduceGT, Int.reduceGE, h0, h3, h5, h6, h7, hN5, hN6, arow]
                refine hend _ _ ?_ (Mem.set_eq _ _ _) rfl
                refine Mem.le_set (fun j b hj => ?_) (hid5 _ (Nat.le_refl _))
                have h1 := hMN _ _ hj
                rw [Mem.set_ne _ _ _ _ (by have := lt_of_bnd hn0 h1; omega)]
                exact h1
          · simp -implicitDefEqProofs (maxSteps := 1000000) (disch := omega) only [↓xsP, xsQ, xsT, xsR, xsD, ↓reduceIte, reduceCtorEq, eq_self, ne_eq, imp_self, forall_const, Nat.reduceEqDiff, Nat.reduceAdd, Nat.reduceSub, Nat.reduceMul, Nat.reduceLT, Nat.reduceLeDiff, Nat.reduceBEq, Nat.reduceDiv, Nat.reduceMod, Int.reduceToNat, Int.reduceNeg, Int.reduceAdd, Int.reduceSub, Int.reduceMul, Int.reduceEq, Int.reduceNe, Int.reduceLT, Int.reduceLE, Int.reduceGT, Int.reduceGE, h0, h3, h5, h6, h7]
            refine vc_seq_of ?_
            simp -implicitDefEqProofs (maxSteps := 1000000) (disch := omega) only [↓xsP, xsQ, xsT, xsR, xsD, ↓reduceIte, reduceCtorEq, eq_self, ne_eq, imp_self, forall_const, Nat.reduceEqDiff, Nat.reduceAdd, Nat.reduceSub, Nat.reduceMul, Nat.reduceLT, Nat.reduceLeDiff, Nat.reduceBEq, Nat.reduceDiv, Nat.reduceMod, Int.reduceToNat, Int.reduceNeg, Int.reduceAdd, Int.reduceSub, Int.reduceMul, Int.reduceEq, Int.reduceNe, Int.reduceLT, Int.reduceLE, Int.reduceGT, Int.reduceGE, h0, h3, h5, h6, h7]
            refine xwrite (fun n0 => [ (4, id5)]) [4] [] [[], [], [], [], []] (by kernel_rfl) (by kernel_rfl) (by kernel_rfl) (by kernel_rfl) (fun n0 hn0 => ⟨rfl, ?_, ?_⟩)
            · exact TOk_cons (.inl (lt_of_bnd hn0 hN5)) (TOk_nil _ _)
            · have h5n := lt_of_bnd hn0 hN5
              have h3n := lt_of_bnd hn0 hN3
              have h6n := lt_of_bnd hn0 hN6
              simp -implicitDefEqProofs (maxSteps := 1000000) (disch := omega) only [↓xsP, ↓vc_seq, xsQ, xsT, xsR, xsD, ↓reduceIte, reduceCtorEq, eq_self, ne_eq, imp_self, forall_const, Nat.reduceEqDiff, Nat.reduceAdd, Nat.reduceSub, Nat.reduceMul, Nat.reduceLT, Nat.reduceLeDiff, Nat.reduceBEq, Nat.reduceDiv, Nat.reduceMod, Int.reduceToNat, Int.reduceNeg, Int.reduceAdd, Int.reduceSub, Int.reduceMul, Int.reduceEq, Int.reduceNe, Int.reduceLT, Int.reduceLE, Int.reduceGT, Int.reduceGE, h0, h3, h5, h6, h7, hN3']
              refine wcallI_eff (v := .l (.sl (l.map Pr.row))) (e := []) (fun M' hle => XCalls.mono (clone_spec l hl M') (by rintro _ _ ⟨rfl, rfl⟩; exact ⟨rfl, Mem.le_refl _⟩)) ?_
              simp -implicitDefEqProofs (maxSteps := 1000000) (disch := omega) only [↓xsP, ↓vc_seq, xsQ, xsT, xsR, xsD, ↓reduceIte, reduceCtorEq, eq_self, ne_eq, imp_self, forall_const, Nat.reduceEqDiff, Nat.reduceAdd, Nat.reduceSub, Nat.reduceMul, Nat.reduceLT, Nat.reduceLeDiff, Nat.reduceBEq, Nat.reduceDiv, Nat.reduceMod, Int.reduceToNat, Int.reduceNeg, Int.reduceAdd, Int.reduceSub, Int.reduceMul, Int.reduceEq, Int.reduceNe, Int.reduceLT, Int.reduceLE, Int.reduceGT, Int.reduceGE, h0, h3, h5, h6, h7, hN5, hN6, arow]
              refine hend _ _ (Mem.le_set hMN (hid5 _ (Nat.le_refl _))) (Mem.set_eq _ _ _) ?_
              rw [oneL, if_neg hc, if_neg hc2]
end Go.X
set_option linter.unusedVariables false
set_option linter.unusedSimpArgs false
set_option maxHeartbeats 20000000
set_option maxRecDepth 100000
namespace Go.X
open Go.Proofs.Tryd (prog)

noncomputable def okOp (l : List Pr) (op : Opn) : Bool := bof (Rises l) && mayOpB op
def inRange (l : List Pr) (op : Opn) : List Pr := stays (outside op.key op.to) l
noncomputable def doL (l : List Pr) (op : Opn) : List Pr := if okOp l op = false then l else if op.kind = 1 ∨ op.kind = 2 ∨ op.kind = 3 then oneL l op else l
noncomputable def doA (l : List Pr) (op : Opn) : Ans :=
  if okOp l op = false then ⟨1, false, ⟨0, 0⟩, 0, []⟩
  else if op.kind = 5 then ⟨0, false, ⟨0, 0⟩, (inRange l op).length, inRange l op⟩
  else if op.kind = 6 then ⟨0, false, ⟨0, 0⟩, (inRange l op).length, []⟩
  else if op.kind = 7 then (if l = [] then ans0 else ⟨0, true, l.getD 0 default, 0, []⟩)
  else if op.kind = 8 then (if l = [] then ans0 else ⟨0, true, l.getD (l.length - 1) default, 0, []⟩)
  else ansAt l (place l op.key)

theorem oneL_get {l : List Pr} {op : Opn} (h1 : op.kind ≠ 1) (h2 : op.kind ≠ 2) (h3 : op.kind ≠ 3) : oneL l op = l := by
  rw [oneL, if_neg (by simp [h1, h2]), if_neg (by simp [h3])]
theorem stays_len (q : Pr → Bool) (l : List Pr) : (stays q l).length ≤ l.length := List.length_filter_le _ _

def DoMid (l : List Pr) (op : Opn) (M : Mem) (id5 id6 : Nat) (N : Mem) : Prop :=
  doL l op = l ∧ M.le N ∧ N id5 = some (.cells 34 [arow ans0] 0) ∧ ∃ a b c d e f, N id6 = some (.cells 34 [[a, b, c, d, e, f]] 0) ∧ [a, b, c, d, e, f].map wkL = (doA l op).row
theorem doMid_set {l : List Pr} {op : Opn} {M N : Mem} {id5 id6 : Nat} {a b c d e f : Lf} (h : doL l op = l) (hle : M.le N) (h6 : M id6 = none) (hne : id6 ≠ id5) (h5 : N id5 = some (.cells 34 [arow ans0] 0)) (hw : [a, b, c, d, e, f].map wkL = (doA l op).row) :
    DoMid l op M id5 id6 (N.set id6 (.cells 34 [[a, b, c, d, e, f]] 0)) :=
  ⟨h, Mem.le_set hle h6, by rw [Mem.set_ne _ _ _ _ hne]; exact h5, a, b, c, d, e, f, Mem.set_eq _ _ _, hw⟩

theorem do_spec (l : List Pr) (hl : l.length ≤ 1000001) (op : Opn) (M : Mem) :
    XCalls Go.Proofs.Tryd.prog 54 [.l (.sl (l.map Pr.row)), .agg op.row] M fun r M' => r = .tup [.l (.sl ((doL l op).map Pr.row)), .agg (doA l op).row] ∧ M' = M := by
  refine xcalls_intro (rs := [.tmp 4, .cell 5 34]) Go.Proofs.Tryd.func54 rfl (by kernel_rfl) rfl rfl (by kernel_rfl) (by simp) ?_
  refine vc_seq_of ?_
  simp -implicitDefEqProofs (maxSteps := 1000000) (disch := omega) only [↓xsP, xsQ, xsT, xsR, xsD, ↓reduceIte, reduceCtorEq, eq_self, ne_eq, imp_self, forall_const, Nat.reduceEqDiff, Nat.reduceAdd, Nat.reduceSub, Nat.reduceMul, Nat.reduceLT, Nat.reduceLeDiff, Nat.reduceBEq, Nat.reduceDiv, Nat.reduceMod, Int.reduceToNat, Int.reduceNeg, Int.reduceAdd, Int.reduceSub, Int.reduceMul, Int.reduceEq, Int.reduceNe, Int.reduceLT, Int.reduceLE, Int.reduceGT, Int.reduceGE]
  refine newI_intro fun id3 hid3 => ?_
  simp -implicitDefEqProofs (maxSteps := 1000000) (disch := omega) only [↓xsP, xsQ, xsT, xsR, xsD, ↓reduceIte, reduceCtorEq, eq_self, ne_eq, imp_self, forall_const, Nat.reduceEqDiff, Nat.reduceAdd, Nat.reduceSub, Nat.reduceMul, Nat.reduceLT, Nat.reduceLeDiff, Nat.reduceBEq, Nat.reduceDiv, Nat.reduceMod, Int.reduceToNat, Int.reduceNeg, Int.reduceAdd, Int.reduceSub, Int.reduceMul, Int.reduceEq, Int.reduceNe, Int.reduceLT, Int.reduceLE, Int.reduceGT, Int.reduceGE]
  refine newI_intro fun id5 hid5 => ?_
  obtain ⟨h35, hid5⟩ := bnd_new hid5
  simp -implicitDefEqProofs (maxSteps := 1000000) (disch := omega) only [↓xsP, xsQ, xsT, xsR, xsD, ↓reduceIte, reduceCtorEq, eq_self, ne_eq, imp_self, forall_const, Nat.reduceEqDiff, Nat.reduceAdd, Nat.reduceSub, Nat.reduceMul, Nat.reduceLT, Nat.reduceLeDiff, Nat.reduceBEq, Nat.reduceDiv, Nat.reduceMod, Int.reduceToNat, Int.reduceNeg, Int.reduceAdd, Int.reduceSub, Int.reduceMul, Int.reduceEq, Int.reduceNe, Int.reduceLT, Int.reduceLE, Int.reduceGT, Int.reduceGE]
  have hend : ∀ (l' : List Pr) (a b c d e f : Lf) (N : Mem), M.le N → l' = doL l op → [a, b, c, d, e, f].map wkL = (doA l op).row →
      @finI prog (.tup [.l (.sl (l'.map Pr.row)), .agg [a, b, c, d, e, f]]) N ⟨fun r M' => r = .tup [.l (.sl ((doL l op).map Pr.row)), .agg (doA l op).row] ∧ M' = M⟩ := fun l' a b c d e f N hle h hw => by
    subst h
    refine finI_of (XFin.wk (XFin.le hle ⟨?_, rfl⟩))
    simp only [wkT, List.map_cons, List.map_nil, wkA]
    rw [← hw]
    rfl
  generalize hN : ((M.set id3 _).set id5 _ : Mem) = N
  have hN3 : N id3 = some (.cells 25 [[.int .i64 op.kind, .int .i64 op.key, .int .i64 op.to, .int .i64 op.val]] 0) := by rw [← hN, Mem.set_ne _ _ _ _ (by omega)]; exact Mem.set_eq _ _ _
  have hN5 : N id5 = some (.cells 34 [arow ans0] 0) := by rw [← hN]; exact Mem.set_eq _ _ _
  have hMN : M.le N := by rw [← hN]; exact le_new (le_new (Mem.le_refl _) hid3) hid5
  clear hN
  refine vc_cut (fun fr N' => N' = N ∧ okOp l op = true ∧ fr 0 = .l (.sl (l.map Pr.row)) ∧ fr 3 = .l (.ptr id3 0 0) ∧ fr 5 = .l (.ptr id5 0 0)) ?_ ?_
  · simp -implicitDefEqProofs (maxSteps := 1000000) (disch := omega) only [↓xsP, ↓vc_seq, xsQ, xsT, xsR, xsD, ↓reduceIte, reduceCtorEq, eq_self, ne_eq, imp_self, forall_const, Nat.reduceEqDiff, Nat.reduceAdd, Nat.reduceSub, Nat.reduceMul, Nat.reduceLT, Nat.reduceLeDiff, Nat.reduceBEq, Nat.reduceDiv, Nat.reduceMod, Int.reduceToNat, Int.reduceNeg, Int.reduceAdd, Int.reduceSub, Int.reduceMul, Int.reduceEq, Int.reduceNe, Int.reduceLT, Int.reduceLE, Int.reduceGT, Int.reduceGE]
    refine call_of (may_spec l (by omega) N) ?_
    cases hr : bof (Rises l) with
    | false =>
      have hk : okOp l op = false := by rw [okOp, hr]; rfl
      simp -implicitDefEqProofs (maxSteps := 1000000) (disch := omega) only [↓xsP, ↓vc_seq, xsQ, xsT, xsR, xsD, ↓reduceIte, reduceCtorEq, eq_self, ne_eq, imp_self, forall_const, Nat.reduceEqDiff, Nat.reduceAdd, Nat.reduceSub, Nat.reduceMul, Nat.reduceLT, Nat.reduceLeDiff, Nat.reduceBEq, Nat.reduceDiv, Nat.reduceMod, Int.reduceToNat, Int.reduceNeg, Int.reduceAdd, Int.reduceSub, Int.reduceMul, Int.reduceEq, Int.reduceNe, Int.reduceLT, Int.reduceLE, Int.reduceGT, Int.reduceGE]
      refine call_of (clone_spec l hl N) ?_
      simp -implicitDefEqProofs (maxSteps := 1000000) (disch := omega) only [↓xsP, ↓vc_seq, xsQ, xsT, xsR, xsD, ↓reduceIte, reduceCtorEq, eq_self, ne_eq, imp_self, forall_const, Nat.reduceEqDiff, Nat.reduceAdd, Nat.reduceSub, Nat.reduceMul, Nat.reduceLT, Nat.reduceLeDiff, Nat.reduceBEq, Nat.reduceDiv, Nat.reduceMod, Int.reduceToNat, Int.reduceNeg, Int.reduceAdd, Int.reduceSub, Int.reduceMul, Int.reduceEq, Int.reduceNe, Int.reduceLT, Int.reduceLE, Int.reduceGT, Int.reduceGE, hN5, arow, ans0]
      refine hend _ _ _ _ _ _ _ _ (Mem.le_set hMN (hid5 _ (Nat.le_refl _))) (by rw [doL, if_pos hk]) (by rw [doA, if_pos hk]; rfl)
    | true =>
      simp -implicitDefEqProofs (maxSteps := 1000000) (disch := omega) only [↓xsP, ↓vc_seq, xsQ, xsT, xsR, xsD, ↓reduceIte, reduceCtorEq, eq_self, ne_eq, imp_self, forall_const, Nat.reduceEqDiff, Nat.reduceAdd, Nat.reduceSub, Nat.reduceMul, Nat.reduceLT, Nat.reduceLeDiff, Nat.reduceBEq, Nat.reduceDiv, Nat.reduceMod, Int.reduceToNat, Int.reduceNeg, Int.reduceAdd, Int.reduceSub, Int.reduceMul, Int.reduceEq, Int.reduceNe, Int.reduceLT, Int.reduceLE, Int.reduceGT, Int.reduceGE, hN3]
      refine call_of (mayOp_spec op N) ?_
      cases hm : mayOpB op with
      | false =>
        have hk : okOp l op = false := by rw [okOp, hr, hm]; rfl
        simp -implicitDefEqProofs (maxSteps := 1000000) (disch := omega) only [↓xsP, ↓vc_seq, xsQ, xsT, xsR, xsD, ↓reduceIte, reduceCtorEq, eq_self, ne_eq, imp_self, forall_const, Nat.reduceEqDiff, Nat.reduceAdd, Nat.reduceSub, Nat.reduceMul, Nat.reduceLT, Nat.reduceLeDiff, Nat.reduceBEq, Nat.reduceDiv, Nat.reduceMod, Int.reduceToNat, Int.reduceNeg, Int.reduceAdd, Int.reduceSub, Int.reduceMul, Int.reduceEq, Int.reduceNe, Int.reduceLT, Int.reduceLE, Int.reduceGT, Int.reduceGE]
        refine call_of (clone_spec l hl N) ?_
        simp -implicitDefEqProofs (maxSteps := 1000000) (disch := omega) only [↓xsP, ↓vc_seq, xsQ, xsT, xsR, xsD, ↓reduceIte, reduceCtorEq, eq_self, ne_eq, imp_self, forall_const, Nat.reduceEqDiff, Nat.reduceAdd, Nat.reduceSub, Nat.reduceMul, Nat.reduceLT, Nat.reduceLeDiff, Nat.reduceBEq, Nat.reduceDiv, Nat.reduceMod, Int.reduceToNat, Int.reduceNeg, Int.reduceAdd, Int.reduceSub, Int.reduceMul, Int.reduceEq, Int.reduceNe, Int.reduceLT, Int.reduceLE, Int.reduceGT, Int.reduceGE, hN5, arow, ans0]
        refine hend _ _ _ _ _ _ _ _ (Mem.le_set hMN (hid5 _ (Nat.le_refl _))) (by rw [doL, if_pos hk]) (by rw [doA, if_pos hk]; rfl)
      | true =>
        simp -implicitDefEqProofs (maxSteps := 1000000) (disch := omega) only [↓xsP, ↓vc_seq, xsQ, xsT, xsR, xsD, ↓reduceIte, reduceCtorEq, eq_self, ne_eq, imp_self, forall_const, Nat.reduceEqDiff, Nat.reduceAdd, Nat.reduceSub, Nat.reduceMul, Nat.reduceLT, Nat.reduceLeDiff, Nat.reduceBEq, Nat.reduceDiv, Nat.reduceMod, Int.reduceToNat, Int.reduceNeg, Int.reduceAdd, Int.reduceSub, Int.reduceMul, Int.reduceEq, Int.reduceNe, Int.reduceLT, Int.reduceLE, Int.reduceGT, Int.reduceGE]
        rw [okOp, hr, hm]
        rfl
  · rintro fr N' ⟨rfl, hok, h0, h3, h5⟩
    have hok' : ¬ okOp l op = false := by rw [hok]; simp
    have hmay : mayOpB op = true := by
      rw [okOp, Bool.and_eq_true] at hok
      exact hok.2
    simp only [mayOpB, Bool.and_eq_true, decide_eq_true_eq] at hmay
    refine vc_seq_of ?_
    simp -implicitDefEqProofs (maxSteps := 1000000) (disch := omega) only [↓xsP, xsQ, xsT, xsR, xsD, ↓reduceIte, reduceCtorEq, eq_self, ne_eq, imp_self, forall_const, Nat.reduceEqDiff, Nat.reduceAdd, Nat.reduceSub, Nat.reduceMul, Nat.reduceLT, Nat.reduceLeDiff, Nat.reduceBEq, Nat.reduceDiv, Nat.reduceMod, Int.reduceToNat, Int.reduceNeg, Int.reduceAdd, Int.reduceSub, Int.reduceMul, Int.reduceEq, Int.reduceNe, Int.reduceLT, Int.reduceLE, Int.reduceGT, Int.reduceGE, h0, h3, h5]
    refine newI_intro fun id6 hid6 => ?_
    have h56 : id5 < id6 := lt_of_bnd hid6 hN5
    have h36 : id3 < id6 := lt_of_bnd hid6 hN3
    simp -implicitDefEqProofs (maxSteps := 1000000) (disch := omega) only [↓xsP, xsQ, xsT, xsR, xsD, ↓reduceIte, reduceCtorEq, eq_self, ne_eq, imp_self, forall_const, Nat.reduceEqDiff, Nat.reduceAdd, Nat.reduceSub, Nat.reduceMul, Nat.reduceLT, Nat.reduceLeDiff, Nat.reduceBEq, Nat.reduceDiv, Nat.reduceMod, Int.reduceToNat, Int.reduceNeg, Int.reduceAdd, Int.reduceSub, Int.reduceMul, Int.reduceEq, Int.reduceNe, Int.reduceLT, Int.reduceLE, Int.reduceGT, Int.reduceGE, h0, h3, h5]
    have hM6 : M id6 = none := by
      cases hq : M id6 with
      | none => rfl
      | some b => have := hMN _ _ hq; rw [hid6 _ (Nat.le_refl _)] at this; cases this
    refine vc_cut (fun fr N => fr 0 = .l (.sl (l.map Pr.row)) ∧ fr 5 = .l (.ptr id5 0 0) ∧ fr 6 = .l (.ptr id6 0 0) ∧ DoMid l op M id5 id6 N) ?_ ?_
    · have hget : ∀ {k : Int}, op.kind = k → 5 ≤ k → doL l op = l := fun h1 h2 => by
        rw [doL, if_neg hok', if_neg (by omega)]
      by_cases k5 : op.kind = 5
      · have q5 : (op.kind = 5) = True := eq_true k5
        have hdo : doA l op = ⟨0, false, ⟨0, 0⟩, (inRange l op).length, inRange l op⟩ := by rw [doA, if_neg hok', if_pos k5]
        simp -implicitDefEqProofs (maxSteps := 1000000) (disch := omega) only [↓xsP, ↓vc_seq, xsQ, xsT, xsR, xsD, ↓reduceIte, reduceCtorEq, eq_self, ne_eq, imp_self, forall_const, Nat.reduceEqDiff, Nat.reduceAdd, Nat.reduceSub, Nat.reduceMul, Nat.reduceLT, Nat.reduceLeDiff, Nat.reduceBEq, Nat.reduceDiv, Nat.reduceMod, Int.reduceToNat, Int.reduceNeg, Int.reduceAdd, Int.reduceSub, Int.reduceMul, Int.reduceEq, Int.reduceNe, Int.reduceLT, Int.reduceLE, Int.reduceGT, Int.reduceGE, h0, h3, h5, hN3, q5]
        refine call_of (within_spec l hl op.key op.to _) ?_
        simp -implicitDefEqProofs (maxSteps := 1000000) (disch := omega) only [↓xsP, ↓vc_seq, xsQ, xsT, xsR, xsD, ↓reduceIte, reduceCtorEq, eq_self, ne_eq, imp_self, forall_const, Nat.reduceEqDiff, Nat.reduceAdd, Nat.reduceSub, Nat.reduceMul, Nat.reduceLT, Nat.reduceLeDiff, Nat.reduceBEq, Nat.reduceDiv, Nat.reduceMod, Int.reduceToNat, Int.reduceNeg, Int.reduceAdd, Int.reduceSub, Int.reduceMul, Int.reduceEq, Int.reduceNe, Int.reduceLT, Int.reduceLE, Int.reduceGT, Int.reduceGE, h0, h3, h5, hN3, q5]
        exact doMid_set (hget k5 (by omega)) hMN hM6 (by omega) hN5 (by rw [hdo]; rfl)
      · have q5 : (op.kind = 5) = False := eq_false k5
        by_cases k6 : op.kind = 6
        · have q6 : (op.kind = 6) = True := eq_true k6
          have hdo : doA l op = ⟨0, false, ⟨0, 0⟩, (inRange l op).length, []⟩ := by rw [doA, if_neg hok', if_neg k5, if_pos k6]
          simp -implicitDefEqProofs (maxSteps := 1000000) (disch := omega) only [↓xsP, ↓vc_seq, xsQ, xsT, xsR, xsD, ↓reduceIte, reduceCtorEq, eq_self, ne_eq, imp_self, forall_const, Nat.reduceEqDiff, Nat.reduceAdd, Nat.reduceSub, Nat.reduceMul, Nat.reduceLT, Nat.reduceLeDiff, Nat.reduceBEq, Nat.reduceDiv, Nat.reduceMod, Int.reduceToNat, Int.reduceNeg, Int.reduceAdd, Int.reduceSub, Int.reduceMul, Int.reduceEq, Int.reduceNe, Int.reduceLT, Int.reduceLE, Int.reduceGT, Int.reduceGE, h0, h3, h5, hN3, q5, q6]
          refine call_of (within_spec l hl op.key op.to _) ?_
          simp -implicitDefEqProofs (maxSteps := 1000000) (disch := omega) only [↓xsP, ↓vc_seq, xsQ, xsT, xsR, xsD, ↓reduceIte, reduceCtorEq, eq_self, ne_eq, imp_self, forall_const, Nat.reduceEqDiff, Nat.reduceAdd, Nat.reduceSub, Nat.reduceMul, Nat.reduceLT, Nat.reduceLeDiff, Nat.reduceBEq, Nat.reduceDiv, Nat.reduceMod, Int.reduceToNat, Int.reduceNeg, Int.reduceAdd, Int.reduceSub, Int.reduceMul, Int.reduceEq, Int.reduceNe, Int.reduceLT, Int.reduceLE, Int.reduceGT, Int.reduceGE, h0, h3, h5, hN3, q5, q6]
          exact doMid_set (hget k6 (by omega)) hMN hM6 (by omega) hN5 (by rw [hdo]; rfl)
        · have q6 : (op.kind = 6) = False := eq_false k6
          by_cases k7 : op.kind = 7
          · have q7 : (op.kind = 7) = True := eq_true k7
            have q8 : (op.kind = 8) = False := eq_false (by omega)
            have hdo : doA l op = (if l = [] then ans0 else ⟨0, true, l.getD 0 default, 0, []⟩) := by rw [doA, if_neg hok', if_neg k5, if_neg k6, if_pos k7]
            simp -implicitDefEqProofs (maxSteps := 1000000) (disch := omega) only [↓xsP, ↓vc_seq, xsQ, xsT, xsR, xsD, ↓reduceIte, reduceCtorEq, eq_self, ne_eq, imp_self, forall_const, Nat.reduceEqDiff, Nat.reduceAdd, Nat.reduceSub, Nat.reduceMul, Nat.reduceLT, Nat.reduceLeDiff, Nat.reduceBEq, Nat.reduceDiv, Nat.reduceMod, Int.reduceToNat, Int.reduceNeg, Int.reduceAdd, Int.reduceSub, Int.reduceMul, Int.reduceEq, Int.reduceNe, Int.reduceLT, Int.reduceLE, Int.reduceGT, Int.reduceGE, h0, h3, h5, hN3, q5, q6, q7]
            refine condI_prop (fun hp => ?_) (fun hp => ?_)
            · have hl0 : ¬ l = [] := fun e => by subst e; simp at hp
              have hpos : ((l.length : Int) > 0) = True := eq_true hp
              have hpos' : 0 < l.length := by omega
              rw [if_neg hl0] at hdo
              simp -implicitDefEqProofs (maxSteps := 1000000) (disch := omega) only [↓xsP, ↓vc_seq, xsQ, xsT, xsR, xsD, ↓reduceIte, reduceCtorEq, eq_self, ne_eq, imp_self, forall_const, Nat.reduceEqDiff, Nat.reduceAdd, Nat.reduceSub, Nat.reduceMul, Nat.reduceLT, Nat.reduceLeDiff, Nat.reduceBEq, Nat.reduceDiv, Nat.reduceMod, Int.reduceToNat, Int.reduceNeg, Int.reduceAdd, Int.reduceSub, Int.reduceMul, Int.reduceEq, Int.reduceNe, Int.reduceLT, Int.reduceLE, Int.reduceGT, Int.reduceGE, h0, h3, h5, hN3, q7, q8, hpos]
              exact doMid_set (hget k7 (by omega)) hMN hM6 (by omega) hN5 (by rw [hdo]; rfl)
            · have hl0 : l = [] := List.eq_nil_of_length_eq_zero (by omega)
              have hpos : ((l.length : Int) > 0) = False := eq_false hp
              rw [if_pos hl0] at hdo
              simp -implicitDefEqProofs (maxSteps := 1000000) (disch := omega) only [↓xsP, ↓vc_seq, xsQ, xsT, xsR, xsD, ↓reduceIte, reduceCtorEq, eq_self, ne_eq, imp_self, forall_const, Nat.reduceEqDiff, Nat.reduceAdd, Nat.reduceSub, Nat.reduceMul, Nat.reduceLT, Nat.reduceLeDiff, Nat.reduceBEq, Nat.reduceDiv, Nat.reduceMod, Int.reduceToNat, Int.reduceNeg, Int.reduceAdd, Int.reduceSub, Int.reduceMul, Int.reduceEq, Int.reduceNe, Int.reduceLT, Int.reduceLE, Int.reduceGT, Int.reduceGE, h0, h3, h5, hN3, q7, q8, hpos]
              exact doMid_set (hget k7 (by omega)) hMN hM6 (by omega) hN5 (by rw [hdo]; rfl)
          · have q7 : (op.kind = 7) = False := eq_false k7
            by_cases k8 : op.kind = 8
            · have q8 : (op.kind = 8) = True := eq_true k8
              have hdo : doA l op = (if l = [] then ans0 else ⟨0, true, l.getD (l.length - 1) default, 0, []⟩) := by rw [doA, if_neg hok', if_neg k5, if_neg k6, if_neg k7, if_pos k8]
              simp -implicitDefEqProofs (maxSteps := 1000000) (disch := omega) only [↓xsP, ↓vc_seq, xsQ, xsT, xsR, xsD, ↓reduceIte, reduceCtorEq, eq_self, ne_eq, imp_self, forall_const, Nat.reduceEqDiff, Nat.reduceAdd, Nat.reduceSub, Nat.reduceMul, Nat.reduceLT, Nat.reduceLeDiff, Nat.reduceBEq, Nat.reduceDiv, Nat.reduceMod, Int.reduceToNat, Int.reduceNeg, Int.reduceAdd, Int.reduceSub, Int.reduceMul, Int.reduceEq, Int.reduceNe, Int.reduceLT, Int.reduceLE, Int.reduceGT, Int.reduceGE, h0, h3, h5, hN3, q5, q6, q7, q8]
              refine condI_prop (fun hp => ?_) (fun hp => ?_)
              · have hl0 : ¬ l = [] := fun e => by subst e; simp at hp
                have hpos : ((l.length : Int) > 0) = True := eq_true hp
                have hpos' : 0 < l.length := by omega
                rw [if_neg hl0] at hdo
                simp -implicitDefEqProofs (maxSteps := 1000000) (disch := omega) only [↓xsP, ↓vc_seq, xsQ, xsT, xsR, xsD, ↓reduceIte, reduceCtorEq, eq_self, ne_eq, imp_self, forall_const, Nat.reduceEqDiff, Nat.reduceAdd, Nat.reduceSub, Nat.reduceMul, Nat.reduceLT, Nat.reduceLeDiff, Nat.reduceBEq, Nat.reduceDiv, Nat.reduceMod, Int.reduceToNat, Int.reduceNeg, Int.reduceAdd, Int.reduceSub, Int.reduceMul, Int.reduceEq, Int.reduceNe, Int.reduceLT, Int.reduceLE, Int.reduceGT, Int.reduceGE, h0, h3, h5, hN3, q7, q8, hpos]
                exact doMid_set (hget k8 (by omega)) hMN hM6 (by omega) hN5 (by rw [hdo]; rfl)
              · have hl0 : l = [] := List.eq_nil_of_length_eq_zero (by omega)
                have hpos : ((l.length : Int) > 0) = False := eq_false hp
                rw [if_pos hl0] at hdo
                simp -implicitDefEqProofs (maxSteps := 1000000) (disch := omega) only [↓xsP, ↓vc_seq, xsQ, xsT, xsR, xsD, ↓reduceIte, reduceCtorEq, eq_self, ne_eq, imp_self, forall_const, Nat.reduceEqDiff, Nat.reduceAdd, Nat.reduceSub, Nat.reduceMul, Nat.reduceLT, Nat.reduceLeDiff, Nat.reduceBEq, Nat.reduceDiv, Nat.reduceMod, Int.reduceToNat, Int.reduceNeg, Int.reduceAdd, Int.reduceSub, Int.reduceMul, Int.reduceEq, Int.reduceNe, Int.reduceLT, Int.reduceLE, Int.reduceGT, Int.reduceGE, h0, h3, h5, hN3, q7, q8, hpos]
                exact doMid_set (hget k8 (by omega)) hMN hM6 (by omega) hN5 (by rw [hdo]; rfl)
            · have q8 : (op.kind = 8) = False := eq_false k8
              have hdo : doA l op = ansAt l (place l op.key) := by rw [doA, if_neg hok', if_neg k5, if_neg k6, if_neg k7, if_neg k8]
              have hdl : doL l op = oneL l op := by
                rw [doL, if_neg hok']
                split
                · rfl
                · rename_i hk
                  exact (oneL_get (by omega) (by omega) (by omega)).symm
              simp -implicitDefEqProofs (maxSteps := 1000000) (disch := omega) only [↓xsP, ↓vc_seq, xsQ, xsT, xsR, xsD, ↓reduceIte, reduceCtorEq, eq_self, ne_eq, imp_self, forall_const, Nat.reduceEqDiff, Nat.reduceAdd, Nat.reduceSub, Nat.reduceMul, Nat.reduceLT, Nat.reduceLeDiff, Nat.reduceBEq, Nat.reduceDiv, Nat.reduceMod, Int.reduceToNat, Int.reduceNeg, Int.reduceAdd, Int.reduceSub, Int.reduceMul, Int.reduceEq, Int.reduceNe, Int.reduceLT, Int.reduceLE, Int.reduceGT, Int.reduceGE, h0, h3, h5, hN3, q5, q6, q7, q8]
              refine call_of (one_spec l hl op _) ?_
              simp -implicitDefEqProofs (maxSteps := 1000000) (disch := omega) only [↓xsP, ↓vc_seq, xsQ, xsT, xsR, xsD, ↓reduceIte, reduceCtorEq, eq_self, ne_eq, imp_self, forall_const, Nat.reduceEqDiff, Nat.reduceAdd, Nat.reduceSub, Nat.reduceMul, Nat.reduceLT, Nat.reduceLeDiff, Nat.reduceBEq, Nat.reduceDiv, Nat.reduceMod, Int.reduceToNat, Int.reduceNeg, Int.reduceAdd, Int.reduceSub, Int.reduceMul, Int.reduceEq, Int.reduceNe, Int.reduceLT, Int.reduceLE, Int.reduceGT, Int.reduceGE, h0, h3, h5, hN5, arow, ans0]
              exact hend _ _ _ _ _ _ _ _ (Mem.le_set (Mem.le_set hMN hM6) (hid5 _ (Nat.le_refl _))) hdl.symm (by rw [hdo]; rfl)
    · clear h0 h3 h5
      rintro fr N ⟨h0, h5, h6, hdl, hMN2, hN5', a, b, c, d, e, f, hN6, hw⟩
      refine vc_seq_of ?_
      simp -implicitDefEqProofs (maxSteps := 1000000) (disch := omega) only [↓xsP, xsQ, xsT, xsR, xsD, ↓reduceIte, reduceCtorEq, eq_self, ne_eq, imp_self, forall_const, Nat.reduceEqDiff, Nat.reduceAdd, Nat.reduceSub, Nat.reduceMul, Nat.reduceLT, Nat.reduceLeDiff, Nat.reduceBEq, Nat.reduceDiv, Nat.reduceMod, Int.reduceToNat, Int.reduceNeg, Int.reduceAdd, Int.reduceSub, Int.reduceMul, Int.reduceEq, Int.reduceNe, Int.reduceLT, Int.reduceLE, Int.reduceGT, Int.reduceGE, h0, h5, h6]
      refine xwrite (fun n0 => [ (4, id5)]) [4] [] [[], [], [], [], []] (by kernel_rfl) (by kernel_rfl) (by kernel_rfl) (by kernel_rfl) (fun n0 hn0 => ⟨rfl, ?_, ?_⟩)
      · exact TOk_cons (.inl (lt_of_bnd hn0 hN5')) (TOk_nil _ _)
      · have h5n := lt_of_bnd hn0 hN5'
        have h6n := lt_of_bnd hn0 hN6
        simp -implicitDefEqProofs (maxSteps := 1000000) (disch := omega) only [↓xsP, ↓vc_seq, xsQ, xsT, xsR, xsD, ↓reduceIte, reduceCtorEq, eq_self, ne_eq, imp_self, forall_const, Nat.reduceEqDiff, Nat.reduceAdd, Nat.reduceSub, Nat.reduceMul, Nat.reduceLT, Nat.reduceLeDiff, Nat.reduceBEq, Nat.reduceDiv, Nat.reduceMod, Int.reduceToNat, Int.reduceNeg, Int.reduceAdd, Int.reduceSub, Int.reduceMul, Int.reduceEq, Int.reduceNe, Int.reduceLT, Int.reduceLE, Int.reduceGT, Int.reduceGE, h0, h5, h6]
        refine wcallI_eff (v := .l (.sl (l.map Pr.row))) (e := []) (fun M' hle => XCalls.mono (clone_spec l hl M') (by rintro _ _ ⟨rfl, rfl⟩; exact ⟨rfl, Mem.le_refl _⟩)) ?_
        simp -implicitDefEqProofs (maxSteps := 1000000) (disch := omega) only [↓xsP, ↓vc_seq, xsQ, xsT, xsR, xsD, ↓reduceIte, reduceCtorEq, eq_self, ne_eq, imp_self, forall_const, Nat.reduceEqDiff, Nat.reduceAdd, Nat.reduceSub, Nat.reduceMul, Nat.reduceLT, Nat.reduceLeDiff, Nat.reduceBEq, Nat.reduceDiv, Nat.reduceMod, Int.reduceToNat, Int.reduceNeg, Int.reduceAdd, Int.reduceSub, Int.reduceMul, Int.reduceEq, Int.reduceNe, Int.reduceLT, Int.reduceLE, Int.reduceGT, Int.reduceGE, h0, h5, h6, hN5', hN6, arow]
        exact hend _ _ _ _ _ _ _ _ (Mem.le_set hMN2 (hid5 _ (Nat.le_refl _))) hdl.symm hw
end Go.X
set_option linter.unusedVariables false
set_option linter.unusedSimpArgs false
set_option maxRecDepth 100000
namespace Go.X

def Asc (l : List Pr) : Prop := l.Pairwise fun a b => a.key < b.key
theorem rises_cons {x y : Pr} {r : List Pr} : Rises (x :: y :: r) ↔ x.key < y.key ∧ Rises (y :: r) := by
  constructor
  · intro h
    refine ⟨by simpa using h 1 (Nat.le_refl _) (by simp), fun j h1 h2 => ?_⟩
    have := h (j + 1) (by omega) (by simpa using h2)
    cases j with
    | zero => omega
    | succ j => simpa using this
  · rintro ⟨h, hr⟩ j h1 h2
    cases j with
    | zero => omega
    | succ j =>
      cases j with
      | zero => simpa using h
      | succ j => simpa using hr (j + 1) (by omega) (by simpa using h2)
theorem rises_asc : ∀ (l : List Pr), Rises l ↔ Asc l
  | [] => ⟨fun _ => List.Pairwise.nil, fun _ j h1 h2 => by simp at h2⟩
  | [x] => ⟨fun _ => List.pairwise_singleton _ _, fun _ j h1 h2 => by simp at h2; omega⟩
  | x :: y :: r => by
    rw [rises_cons, rises_asc (y :: r)]
    constructor
    · rintro ⟨h, hr⟩
      refine List.pairwise_cons.2 ⟨fun b hb => ?_, hr⟩
      rcases List.mem_cons.1 hb with rfl | hb
      · exact h
      · have := (List.pairwise_cons.1 hr).1 b hb
        omega
    · intro hr
      have h2 := List.pairwise_cons.1 hr
      exact ⟨h2.1 y (by simp), h2.2⟩

def Out (k : Int) (A C l : List Pr) : Prop := l = A ++ C ∧ (∀ a ∈ A, a.key < k) ∧ ∀ c ∈ C, k < c.key
def Inn (k : Int) (A : List Pr) (x : Pr) (C l : List Pr) : Prop := l = A ++ x :: C ∧ x.key = k ∧ (∀ a ∈ A, a.key < k) ∧ ∀ c ∈ C, k < c.key
theorem forms (k : Int) : ∀ (l : List Pr), Asc l → (∃ A C, Out k A C l) ∨ ∃ A x C, Inn k A x C l
  | [], _ => .inl ⟨[], [], rfl, (fun a h => by cases h), (fun a h => by cases h)⟩
  | x :: r, h => by
    obtain ⟨h1, h2⟩ := List.pairwise_cons.1 h
    by_cases hx : x.key < k
    · rcases forms k r h2 with ⟨A, C, rfl, ha, hc⟩ | ⟨A, y, C, rfl, hy, ha, hc⟩
      · exact .inl ⟨x :: A, C, rfl, (fun a h => by rcases List.mem_cons.1 h with rfl | h; exact hx; exact ha a h), hc⟩
      · exact .inr ⟨x :: A, y, C, rfl, hy, (fun a h => by rcases List.mem_cons.1 h with rfl | h; exact hx; exact ha a h), hc⟩
    · by_cases he : x.key = k
      · exact .inr ⟨[], x, r, rfl, he, (fun a h => by cases h), fun c hc => by have := h1 c hc; omega⟩
      · refine .inl ⟨[], x :: r, rfl, (fun a h => by cases h), fun c hc => ?_⟩
        rcases List.mem_cons.1 hc with rfl | hc
        · omega
        · have := h1 c hc
          omega
theorem asc_app {A C : List Pr} {p : Pr} {k : Int} (h : Asc (A ++ C)) (ha : ∀ a ∈ A, a.key < p.key) (hc : ∀ c ∈ C, p.key < c.key) : Asc (A ++ p :: C) := by
  rw [Asc, List.pairwise_append] at h ⊢
  refine ⟨h.1, List.pairwise_cons.2 ⟨hc, h.2.1⟩, fun a h1 b h2 => ?_⟩
  rcases List.mem_cons.1 h2 with rfl | h2
  · exact ha a h1
  · exact h.2.2 a h1 b h2
theorem asc_del {A C : List Pr} {p : Pr} (h : Asc (A ++ p :: C)) : Asc (A ++ C) := by
  rw [Asc, List.pairwise_append] at h ⊢
  exact ⟨h.1, (List.pairwise_cons.1 h.2.1).2, fun a h1 b h2 => h.2.2 a h1 b (List.mem_cons_of_mem _ h2)⟩

theorem wat_app {k : Int} {B : List Pr} : ∀ {A : List Pr}, (∀ a ∈ A, a.key < k) → wat k (A ++ B) = A.length + wat k B
  | [], _ => by simp
  | a :: A, h => by
    simp only [List.cons_append, wat, if_pos (h a (by simp)), List.length_cons]
    rw [wat_app fun b hb => h b (by simp [hb])]
    omega
theorem wat_ge {k : Int} {B : List Pr} (h : ∀ b ∈ B, k ≤ b.key) : wat k B = 0 := by
  cases B with
  | nil => rfl
  | cons b r => simp only [wat]; rw [if_neg (by have := h b (by simp); omega)]
theorem pidx_app {q : Pr → Bool} {B : List Pr} : ∀ {A : List Pr} (i : Nat), (∀ a ∈ A, q a = false) → pidx q (A ++ B) i = pidx q B (i + A.length)
  | [], i, _ => by simp
  | a :: A, i, h => by
    simp only [List.cons_append, pidx, h a (by simp), Bool.false_eq_true, if_false, List.length_cons]
    rw [pidx_app (i + 1) fun b hb => h b (by simp [hb])]
    congr 1
    omega
theorem pidx_none {q : Pr → Bool} : ∀ {B : List Pr} (i : Nat), (∀ b ∈ B, q b = false) → pidx q B i = -1
  | [], _, _ => rfl
  | b :: B, i, h => by
    simp only [pidx, h b (by simp), Bool.false_eq_true, if_false]
    exact pidx_none (i + 1) fun c hc => h c (by simp [hc])

section
variable {k : Int} {A C l : List Pr} {x : Pr}
theorem Out.place (h : Out k A C l) : place l k = -1 := by
  obtain ⟨rfl, ha, hc⟩ := h
  exact pidx_none 0 fun b hb => by
    rcases List.mem_append.1 hb with hb | hb
    · have := ha b hb; simp; omega
    · have := hc b hb; simp; omega
theorem Inn.place (h : Inn k A x C l) : place l k = A.length := by
  obtain ⟨rfl, hx, ha, hc⟩ := h
  rw [Go.X.place, pidx_app 0 fun b hb => by have := ha b hb; simp; omega]
  simp [pidx, hx]
theorem Inn.get (h : Inn k A x C l) : l.getD A.length default = x := by
  obtain ⟨rfl, _⟩ := h
  simp [List.getD_eq_getElem?_getD]
theorem Out.with (h : Out k A C l) (v : Int) : withL l ⟨k, v⟩ = A ++ ⟨k, v⟩ :: C := by
  obtain ⟨rfl, ha, hc⟩ := h
  have hw : wat k (A ++ C) = A.length := by rw [wat_app ha, wat_ge fun b hb => by have := hc b hb; omega]; rfl
  have hr : withRest (A ++ C) ⟨k, v⟩ = C := by
    unfold withRest
    simp only [hw, List.drop_left]
    cases C with
    | nil => rfl
    | cons c r =>
      have := hc c (by simp)
      simp only
      rw [if_neg (by omega)]
  rw [withL, hr]
  simp [hw]
theorem Inn.with (h : Inn k A x C l) (v : Int) : withL l ⟨k, v⟩ = A ++ ⟨k, v⟩ :: C := by
  obtain ⟨rfl, hx, ha, hc⟩ := h
  have hw : wat k (A ++ x :: C) = A.length := by
    rw [wat_app ha, wat_ge fun b hb => by
      rcases List.mem_cons.1 hb with rfl | hb
      · omega
      · have := hc b hb; omega]
    rfl
  have hr : withRest (A ++ x :: C) ⟨k, v⟩ = C := by
    unfold withRest
    simp only [hw, List.drop_left]
    rw [if_pos hx]
  rw [withL, hr]
  simp [hw]
theorem Inn.cut (h : Inn k A x C l) : l.take (Go.X.place l k).toNat ++ l.drop ((Go.X.place l k).toNat + 1) = A ++ C := by
  have hp := h.place
  obtain ⟨rfl, _⟩ := h
  rw [hp, Int.toNat_natCast]
  simp
end

/-- What an operation on a key makes of a leaf. -/
theorem one_forms {l : List Pr} (op : Opn) (h : Asc l) (h1 : 1 ≤ op.kind) :
    (∃ A C, Out op.key A C l ∧ ((op.kind = 1 ∨ op.kind = 2) ∧ oneL l op = A ++ ⟨op.key, op.val⟩ :: C ∨ 3 ≤ op.kind ∧ oneL l op = l)) ∨
    ∃ A x C, Inn op.key A x C l ∧ (op.kind = 1 ∧ oneL l op = A ++ ⟨op.key, op.val⟩ :: C ∨ op.kind = 3 ∧ oneL l op = A ++ C ∨ (op.kind = 2 ∨ 4 ≤ op.kind) ∧ oneL l op = l) := by
  rcases forms op.key l h with ⟨A, C, hO⟩ | ⟨A, x, C, hI⟩
  · refine .inl ⟨A, C, hO, ?_⟩
    have hp := hO.place
    by_cases h3 : 3 ≤ op.kind
    · exact .inr ⟨h3, by rw [oneL, if_neg (by omega), if_neg (by omega)]⟩
    · exact .inl ⟨by omega, by rw [oneL, if_pos (by omega), hO.with]⟩
  · refine .inr ⟨A, x, C, hI, ?_⟩
    have hp := hI.place
    by_cases k1 : op.kind = 1
    · exact .inl ⟨k1, by rw [oneL, if_pos (.inl k1), hI.with]⟩
    · by_cases k3 : op.kind = 3
      · exact .inr (.inl ⟨k3, by rw [oneL, if_neg (by omega), if_pos (by omega), hI.cut]⟩)
      · exact .inr (.inr ⟨by omega, by rw [oneL, if_neg (by omega), if_neg (by omega)]⟩)
end Go.X
set_option linter.unusedVariables false
set_option linter.unusedSimpArgs false
set_option maxRecDepth 100000
namespace Go.X

theorem okOp_of {l : List Pr} {op : Opn} (h : Asc l) (hm : mayOpB op = true) : okOp l op = true := by
  rw [okOp, bof_true ((rises_asc l).2 h), hm]; rfl
theorem may_kind {op : Opn} (hm : mayOpB op = true) : 1 ≤ op.kind ∧ op.kind ≤ 8 := by simpa [mayOpB] using hm
theorem doL_upd {l : List Pr} {op : Opn} (h : Asc l) (hm : mayOpB op = true) (hk : op.kind ≤ 3) : doL l op = oneL l op := by
  have := may_kind hm
  rw [doL, if_neg (by rw [okOp_of h hm]; simp), if_pos (by omega)]
theorem doL_read {l : List Pr} {op : Opn} (hk : 4 ≤ op.kind) : doL l op = l := by
  rw [doL]
  split
  · rfl
  · rw [if_neg (by omega)]
theorem doA_one {l : List Pr} {op : Opn} (h : Asc l) (hm : mayOpB op = true) (hk : op.kind ≤ 4) : doA l op = ansAt l (place l op.key) := by
  rw [doA, if_neg (by rw [okOp_of h hm]; simp), if_neg (by omega), if_neg (by omega), if_neg (by omega), if_neg (by omega)]
theorem upd_law {l : List Pr} {op : Opn} (h : Asc l) (h1 : 1 ≤ op.kind) (h3 : op.kind ≤ 3) :
    Asc (oneL l op) ∧ oneL (oneL l op) op = oneL l op ∧ (ansAt (oneL l op) (place (oneL l op) op.key)).ok = decide (op.kind ≠ 3) := by
  have hsel : ∀ {A C : List Pr} {x : Pr} {m : List Pr}, Inn op.key A x C m → Asc m → op.kind ≠ 3 → (op.kind = 1 → x = ⟨op.key, op.val⟩) → oneL m op = m ∧ (ansAt m (place m op.key)).ok = decide (op.kind ≠ 3) := fun {A C x m} hI hm hk hx => by
    have hp := hI.place
    refine ⟨?_, ?_⟩
    · by_cases k1 : op.kind = 1
      · rw [oneL, if_pos (.inl k1), hI.with, ← hx k1, ← hI.1]
      · rw [oneL, if_neg (by omega), if_neg (by omega)]
    · rw [hp, ansAt, if_pos (by omega)]
      simp [hk]
  have hno : ∀ {A C m : List Pr}, Out op.key A C m → op.kind = 3 → oneL m op = m ∧ (ansAt m (place m op.key)).ok = decide (op.kind ≠ 3) := fun {A C m} hO hk => by
    have hp := hO.place
    refine ⟨by rw [oneL, if_neg (by omega), if_neg (by omega)], ?_⟩
    rw [hp, ansAt, if_neg (by omega)]
    simp [hk, ans0]
  rcases one_forms op h h1 with ⟨A, C, hO, hc⟩ | ⟨A, x, C, hI, hc⟩
  · rcases hc with ⟨hk, hm⟩ | ⟨hk, hm⟩
    · have hI : Inn op.key A ⟨op.key, op.val⟩ C (oneL l op) := ⟨hm, rfl, hO.2.1, hO.2.2⟩
      have ha : Asc (oneL l op) := by rw [hm]; exact asc_app (k := op.key) (by rw [← hO.1]; exact h) hO.2.1 hO.2.2
      exact ⟨ha, hsel hI ha (by omega) fun _ => rfl⟩
    · rw [hm]
      exact ⟨h, hno hO (by omega)⟩
  · rcases hc with ⟨hk, hm⟩ | ⟨hk, hm⟩ | ⟨hk, hm⟩
    · have hI2 : Inn op.key A ⟨op.key, op.val⟩ C (oneL l op) := ⟨hm, rfl, hI.2.2.1, hI.2.2.2⟩
      have ha : Asc (oneL l op) := by
        rw [hm]
        exact asc_app (k := op.key) (asc_del (p := x) (by rw [← hI.1]; exact h)) hI.2.2.1 hI.2.2.2
      exact ⟨ha, hsel hI2 ha (by omega) fun _ => rfl⟩
    · have hO : Out op.key A C (oneL l op) := ⟨hm, hI.2.2.1, hI.2.2.2⟩
      have ha : Asc (oneL l op) := by rw [hm]; exact asc_del (p := x) (by rw [← hI.1]; exact h)
      exact ⟨ha, hno hO hk⟩
    · rw [hm]
      exact ⟨h, hsel hI h (by omega) fun hk1 => by omega⟩
theorem oneL_len (l : List Pr) (op : Opn) : (oneL l op).length ≤ l.length + 1 := by
  unfold oneL
  split
  · have := withRest_len l ⟨op.key, op.val⟩
    change _ ≤ l.length - wat op.key l at this
    unfold withL
    simp only [List.length_append, List.length_take, List.length_cons, List.length_nil]
    omega
  · split
    · simp only [List.length_append, List.length_take, List.length_drop]
      omega
    · omega
theorem doL_len (l : List Pr) (op : Opn) : (doL l op).length ≤ l.length + 1 := by
  have := oneL_len l op
  unfold doL
  split
  · omega
  · split <;> omega
end Go.X
set_option linter.unusedVariables false
set_option linter.unusedSimpArgs false
set_option maxRecDepth 100000
namespace Go.X

theorem drop_cons {l : List Pr} {i : Nat} (hi : i < l.length) : l.drop i = l.getD i default :: l.drop (i + 1) := by
  rw [List.drop_eq_getElem_cons hi, List.getD_eq_getElem?_getD, List.getElem?_eq_getElem hi, Option.getD_some]
end Go.X
set_option linter.unusedVariables false
set_option linter.unusedSimpArgs false
set_option maxRecDepth 100000
namespace Go.X

def rng (l : List Pr) (lo hi : Int) : List Pr := stays (outside lo hi) l
end Go.X
set_option linter.unusedVariables false
set_option maxRecDepth 100000
namespace Go.X

/-- What is there at a key. -/
def look : List Pr → Int → Option Int
  | [], _ => none
  | p :: r, k => if p.key = k then some p.val else look r k
theorem look_app (A B : List Pr) (k : Int) (h : ∀ a ∈ A, a.key ≠ k) : look (A ++ B) k = look B k := by
  induction A with
  | nil => rfl
  | cons x r ih =>
    rw [List.cons_append, look, if_neg (h x (by simp)), ih fun a ha => h a (by simp [ha])]
theorem look_none {l : List Pr} {k : Int} (h : ∀ a ∈ l, a.key ≠ k) : look l k = none := by
  have := look_app l [] k h
  simpa [look] using this
theorem look_mid {A C : List Pr} {x y : Pr} {k : Int} (hk : y.key = x.key) (h : k ≠ x.key) : look (A ++ y :: C) k = look (A ++ C) k := by
  induction A with
  | nil => rw [List.nil_append, look, if_neg (by omega)]; rfl
  | cons z r ih =>
    rw [List.cons_append, List.cons_append, look, look, ih]
theorem Out.look {A C l : List Pr} {k : Int} (h : Out k A C l) : look l k = none := by
  obtain ⟨rfl, h1, h2⟩ := h
  refine look_none fun a ha => ?_
  rcases List.mem_append.1 ha with h' | h'
  · have := h1 a h'; omega
  · have := h2 a h'; omega
theorem Inn.look {A C l : List Pr} {x : Pr} {k : Int} (h : Inn k A x C l) : look l k = some x.val := by
  obtain ⟨rfl, h1, h2, h3⟩ := h
  rw [look_app _ _ _ fun a ha => by have := h2 a ha; omega, Go.X.look, if_pos h1]
/-- What an operation makes of what is there at its key. -/
def upd1 (op : Opn) (o : Option Int) : Option Int :=
  if op.kind = 1 then some op.val else if op.kind = 2 then (match o with | none => some op.val | some v => some v) else if op.kind = 3 then none else o
theorem oneL_look {l : List Pr} {op : Opn} (h : Asc l) (h1 : 1 ≤ op.kind) (k : Int) : look (oneL l op) k = if k = op.key then upd1 op (look l k) else look l k := by
  rcases one_forms op h h1 with ⟨A, C, hO, hc⟩ | ⟨A, x, C, hI, hc⟩
  · rcases hc with ⟨hk, hm⟩ | ⟨hk, hm⟩
    · by_cases e : k = op.key
      · subst e
        have hI : Inn op.key A ⟨op.key, op.val⟩ C (oneL l op) := ⟨hm, rfl, hO.2.1, hO.2.2⟩
        rw [if_pos rfl, hI.look, hO.look, upd1]
        rcases hk with hk | hk
        · rw [if_pos hk]
        · rw [if_neg (by omega), if_pos hk]
      · rw [if_neg e, hm, look_mid (x := ⟨op.key, op.val⟩) rfl e, ← hO.1]
    · by_cases e : k = op.key
      · subst e
        rw [if_pos rfl, hm, hO.look, upd1, if_neg (by omega), if_neg (by omega)]
        split <;> rfl
      · rw [if_neg e, hm]
  · rcases hc with ⟨hk, hm⟩ | ⟨hk, hm⟩ | ⟨hk, hm⟩
    · by_cases e : k = op.key
      · subst e
        have hI2 : Inn op.key A ⟨op.key, op.val⟩ C (oneL l op) := ⟨hm, rfl, hI.2.2.1, hI.2.2.2⟩
        rw [if_pos rfl, hI2.look, hI.look, upd1, if_pos hk]
      · have hx := hI.2.1
        rw [if_neg e, hm, look_mid (x := ⟨op.key, op.val⟩) rfl e, hI.1, look_mid (x := x) rfl (by omega)]
    · have hx := hI.2.1
      by_cases e : k = op.key
      · subst e
        have hO : Out op.key A C (oneL l op) := ⟨hm, hI.2.2.1, hI.2.2.2⟩
        rw [if_pos rfl, hO.look, hI.look, upd1, if_neg (by omega), if_neg (by omega), if_pos hk]
      · rw [if_neg e, hm, hI.1, look_mid (x := x) rfl (by omega)]
    · by_cases e : k = op.key
      · subst e
        rw [if_pos rfl, hm, hI.look, upd1, if_neg (by omega)]
        rcases hk with hk | hk
        · rw [if_pos hk]
        · rw [if_neg (by omega), if_neg (by omega)]
      · rw [if_neg e, hm]
theorem look_head {x : Pr} {r : List Pr} (h : Asc (x :: r)) {k : Int} (hk : k < x.key) : look (x :: r) k = none := by
  refine look_none fun a ha => ?_
  rcases List.mem_cons.1 ha with rfl | h'
  · omega
  · have := (List.pairwise_cons.1 h).1 a h'
    omega
theorem look_ext : ∀ {l m : List Pr}, Asc l → Asc m → (∀ k, look l k = look m k) → l = m
  | [], [], _, _, _ => rfl
  | [], y :: s, _, _, h => by have := h y.key; rw [look, look, if_pos rfl] at this; cases this
  | x :: r, [], _, _, h => by have := h x.key; rw [look, look, if_pos rfl] at this; cases this
  | x :: r, y :: s, hl, hm, h => by
    have hxy : x.key = y.key := by
      rcases Int.lt_trichotomy x.key y.key with h' | h' | h'
      · have := h x.key
        rw [look_head hm h', look, if_pos rfl] at this
        cases this
      · exact h'
      · have := h y.key
        rw [look_head hl h', look, if_pos rfl] at this
        cases this
    have hv : x.val = y.val := by
      have := h x.key
      rw [look, look, if_pos rfl, if_pos hxy.symm] at this
      exact Option.some.inj this
    have e : x = y := by
      cases x; cases y
      simp at hxy hv
      rw [hxy, hv]
    subst e
    have hr : r = s := look_ext (List.pairwise_cons.1 hl).2 (List.pairwise_cons.1 hm).2 fun k => by
      have hk := h k
      rw [look, look] at hk
      by_cases hxk : x.key = k
      · subst hxk
        rw [look_none fun a ha => by have := (List.pairwise_cons.1 hl).1 a ha; omega, look_none fun a ha => by have := (List.pairwise_cons.1 hm).1 a ha; omega]
      · rw [if_neg hxk, if_neg hxk] at hk
        exact hk
    rw [hr]

theorem doL_asc {l : List Pr} (op : Opn) (h : Asc l) : Asc (doL l op) := by
  by_cases hm : mayOpB op = true
  · have hk := may_kind hm
    by_cases h3 : op.kind ≤ 3
    · rw [doL_upd h hm h3]
      exact (upd_law h hk.1 h3).1
    · rw [doL_read (by omega)]
      exact h
  · have : okOp l op = false := by
      rw [okOp]
      simp at hm
      rw [hm, Bool.and_false]
    rw [doL, if_pos this]
    exact h
theorem doL_look {l : List Pr} {op : Opn} (h : Asc l) (hm : mayOpB op = true) (hk : op.kind ≤ 4) (k : Int) : look (doL l op) k = if k = op.key then upd1 op (look l k) else look l k := by
  have h1 := (may_kind hm).1
  by_cases h3 : op.kind ≤ 3
  · rw [doL_upd h hm h3, oneL_look h h1]
  · have e : upd1 op (look l k) = look l k := by rw [upd1.eq_def, if_neg (show ¬ op.kind = 1 by omega), if_neg (show ¬ op.kind = 2 by omega), if_neg (show ¬ op.kind = 3 by omega)]
    rw [doL_read (by omega), e]
    split <;> rfl
end Go.X
set_option linter.unusedVariables false
set_option linter.unusedSimpArgs false
set_option maxHeartbeats 20000000
set_option maxRecDepth 100000
namespace Go.X
open Go.Proofs.Tryd (prog)

/-- A map's block. -/
def mapB (s : List Pr) : Blk := .cells 83 [[.sl (s.map Pr.row)]] 0

theorem le_seti {M N : Mem} {id : Nat} {b : Blk} (h1 : N id = some b) (h2 : ∀ k bk, k ≠ id → M k = some bk → N k = some bk) : (M.set id b).le N := by
  intro k bk hk
  rw [Mem.set_app] at hk
  by_cases e : id = k
  · rw [if_pos e] at hk
    rw [← e, h1]
    exact hk
  · rw [if_neg e] at hk
    exact h2 k bk (fun h => e h.symm) hk

theorem modelDo_spec (s : List Pr) (hl : s.length ≤ 1000001) (op : Opn) (id : Nat) (M : Mem) (hM : M id = some (mapB s)) :
    XCalls Go.Proofs.Tryd.prog 37 [.l (.ptr id 0 0), .agg op.row] M fun r M' => r = .agg (doA s op).row ∧ M' = M.set id (mapB (doL s op)) := by
  refine xcalls_intro (rs := [.cell 4 34]) Go.Proofs.Tryd.func37 rfl (by kernel_rfl) rfl rfl (by kernel_rfl) (by simp) ?_
  simp -implicitDefEqProofs (maxSteps := 1000000) (disch := omega) only [↓xsP, ↓vc_seq, xsQ, xsT, xsR, xsD, ↓reduceIte, reduceCtorEq, eq_self, ne_eq, imp_self, forall_const, Nat.reduceEqDiff, Nat.reduceAdd, Nat.reduceSub, Nat.reduceMul, Nat.reduceLT, Nat.reduceLeDiff, Nat.reduceBEq, Nat.reduceDiv, Nat.reduceMod, Int.reduceToNat, Int.reduceNeg, Int.reduceAdd, Int.reduceSub, Int.reduceMul, Int.reduceEq, Int.reduceNe, Int.reduceLT, Int.reduceLE, Int.reduceGT, Int.reduceGE]
  refine newI_intro fun p3 hp3 => ?_
  have h3 : id < p3 := lt_of_bnd hp3 hM
  simp -implicitDefEqProofs (maxSteps := 1000000) (disch := omega) only [↓xsP, ↓vc_seq, xsQ, xsT, xsR, xsD, ↓reduceIte, reduceCtorEq, eq_self, ne_eq, imp_self, forall_const, Nat.reduceEqDiff, Nat.reduceAdd, Nat.reduceSub, Nat.reduceMul, Nat.reduceLT, Nat.reduceLeDiff, Nat.reduceBEq, Nat.reduceDiv, Nat.reduceMod, Int.reduceToNat, Int.reduceNeg, Int.reduceAdd, Int.reduceSub, Int.reduceMul, Int.reduceEq, Int.reduceNe, Int.reduceLT, Int.reduceLE, Int.reduceGT, Int.reduceGE]
  refine newI_intro fun p4 hp4 => ?_
  obtain ⟨h34, hp4⟩ := bnd_new hp4
  simp -implicitDefEqProofs (maxSteps := 1000000) (disch := omega) only [↓xsP, ↓vc_seq, xsQ, xsT, xsR, xsD, ↓reduceIte, reduceCtorEq, eq_self, ne_eq, imp_self, forall_const, Nat.reduceEqDiff, Nat.reduceAdd, Nat.reduceSub, Nat.reduceMul, Nat.reduceLT, Nat.reduceLeDiff, Nat.reduceBEq, Nat.reduceDiv, Nat.reduceMod, Int.reduceToNat, Int.reduceNeg, Int.reduceAdd, Int.reduceSub, Int.reduceMul, Int.reduceEq, Int.reduceNe, Int.reduceLT, Int.reduceLE, Int.reduceGT, Int.reduceGE]
  refine newI_intro fun p5 hp5 => ?_
  obtain ⟨h45, hp5⟩ := bnd_new hp5
  obtain ⟨h35, hp5⟩ := bnd_new hp5
  simp -implicitDefEqProofs (maxSteps := 1000000) (disch := omega) only [↓xsP, ↓vc_seq, xsQ, xsT, xsR, xsD, ↓reduceIte, reduceCtorEq, eq_self, ne_eq, imp_self, forall_const, Nat.reduceEqDiff, Nat.reduceAdd, Nat.reduceSub, Nat.reduceMul, Nat.reduceLT, Nat.reduceLeDiff, Nat.reduceBEq, Nat.reduceDiv, Nat.reduceMod, Int.reduceToNat, Int.reduceNeg, Int.reduceAdd, Int.reduceSub, Int.reduceMul, Int.reduceEq, Int.reduceNe, Int.reduceLT, Int.reduceLE, Int.reduceGT, Int.reduceGE]
  refine xwrite (fun n0 => [ (12, id), (13, p5)]) [12, 13] [] [[], [], [], [], [], [], [], [], [], [12], [], [], [], []] (by kernel_rfl) (by kernel_rfl) (by kernel_rfl) (by kernel_rfl) (fun n0 hn0 => ⟨rfl, ?_, ?_⟩)
  · exact TOk_cons (.inl (by have := lt_of_bnd hn0 (Mem.set_eq _ p5 _); omega)) (TOk_cons (.inl (lt_of_bnd hn0 (Mem.set_eq _ p5 _))) (TOk_nil _ _))
  · simp -implicitDefEqProofs (maxSteps := 1000000) (disch := omega) only [↓xsP, ↓vc_seq, xsQ, xsT, xsR, xsD, ↓reduceIte, reduceCtorEq, eq_self, ne_eq, imp_self, forall_const, Nat.reduceEqDiff, Nat.reduceAdd, Nat.reduceSub, Nat.reduceMul, Nat.reduceLT, Nat.reduceLeDiff, Nat.reduceBEq, Nat.reduceDiv, Nat.reduceMod, Int.reduceToNat, Int.reduceNeg, Int.reduceAdd, Int.reduceSub, Int.reduceMul, Int.reduceEq, Int.reduceNe, Int.reduceLT, Int.reduceLE, Int.reduceGT, Int.reduceGE, hM, mapB]
    refine wcallI_of (fun M' _ => do_spec s hl op M') ?_
    simp -implicitDefEqProofs (maxSteps := 1000000) (disch := omega) only [↓xsP, ↓vc_seq, xsQ, xsT, xsR, xsD, ↓reduceIte, reduceCtorEq, eq_self, ne_eq, imp_self, forall_const, Nat.reduceEqDiff, Nat.reduceAdd, Nat.reduceSub, Nat.reduceMul, Nat.reduceLT, Nat.reduceLeDiff, Nat.reduceBEq, Nat.reduceDiv, Nat.reduceMod, Int.reduceToNat, Int.reduceNeg, Int.reduceAdd, Int.reduceSub, Int.reduceMul, Int.reduceEq, Int.reduceNe, Int.reduceLT, Int.reduceLE, Int.reduceGT, Int.reduceGE, hM, mapB]
    refine fin_ok (le_seti ?_ fun k bk hk h => ?_) ⟨rfl, rfl⟩
    · simp (disch := omega) only [Mem.set_eq, Mem.set_ne, mapB]
    · have := lt_of_bnd hp3 h
      simp (disch := omega) only [Mem.set_ne, h]

theorem pairs_spec (s : List Pr) (hl : s.length ≤ 1000001) (id : Nat) (M : Mem) (hM : M id = some (mapB s)) :
    XCalls Go.Proofs.Tryd.prog 50 [.l (.ptr id 0 0)] M fun r M' => r = .l (.sl (s.map Pr.row)) ∧ M' = M := by
  refine xcalls_intro (rs := [.tmp 2]) Go.Proofs.Tryd.func50 rfl (by kernel_rfl) rfl rfl (by kernel_rfl) (by simp) ?_
  simp -implicitDefEqProofs (maxSteps := 1000000) (disch := omega) only [↓xsP, ↓vc_seq, xsQ, xsT, xsR, xsD, ↓reduceIte, reduceCtorEq, eq_self, ne_eq, imp_self, forall_const, Nat.reduceEqDiff, Nat.reduceAdd, Nat.reduceSub, Nat.reduceMul, Nat.reduceLT, Nat.reduceLeDiff, Nat.reduceBEq, Nat.reduceDiv, Nat.reduceMod, Int.reduceToNat, Int.reduceNeg, Int.reduceAdd, Int.reduceSub, Int.reduceMul, Int.reduceEq, Int.reduceNe, Int.reduceLT, Int.reduceLE, Int.reduceGT, Int.reduceGE, hM, mapB]
  refine call_of (clone_spec s hl M) ?_
  simp -implicitDefEqProofs (maxSteps := 1000000) (disch := omega) only [↓xsP, ↓vc_seq, xsQ, xsT, xsR, xsD, ↓reduceIte, reduceCtorEq, eq_self, ne_eq, imp_self, forall_const, Nat.reduceEqDiff, Nat.reduceAdd, Nat.reduceSub, Nat.reduceMul, Nat.reduceLT, Nat.reduceLeDiff, Nat.reduceBEq, Nat.reduceDiv, Nat.reduceMod, Int.reduceToNat, Int.reduceNeg, Int.reduceAdd, Int.reduceSub, Int.reduceMul, Int.reduceEq, Int.reduceNe, Int.reduceLT, Int.reduceLE, Int.reduceGT, Int.reduceGE]
  exact fin_ok (Mem.le_refl _) ⟨rfl, rfl⟩
def putOp (p : Pr) : Opn := ⟨1, p.key, 0, p.val⟩
noncomputable def putL (l : List Pr) : List Pr := l.foldl (fun s p => doL s (putOp p)) []
theorem putL_snoc (l : List Pr) (p : Pr) : putL (l ++ [p]) = doL (putL l) (putOp p) := by simp [putL, List.foldl_append]
theorem putL_take (l : List Pr) {i : Nat} (hi : i < l.length) : putL (l.take (i + 1)) = doL (putL (l.take i)) (putOp (l.getD i default)) := by
  have : l.take (i + 1) = l.take i ++ [l.getD i default] := by
    rw [List.take_add_one, List.getD_eq_getElem?_getD, List.getElem?_eq_getElem hi]
    rfl
  rw [this, putL_snoc]
theorem putL_len (l : List Pr) : (putL l).length ≤ l.length := by
  have key : ∀ (l s : List Pr), (l.foldl (fun s p => doL s (putOp p)) s).length ≤ s.length + l.length := by
    intro l
    induction l with
    | nil => intro s; simp
    | cons p r ih =>
      intro s
      have h1 := ih (doL s (putOp p))
      have h2 := doL_len s (putOp p)
      simp only [List.foldl_cons, List.length_cons]
      omega
  have := key l []
  rw [putL]
  simpa using this
theorem new_spec (l : List Pr) (hl : l.length ≤ 1000000) (M : Mem) :
    XCalls Go.Proofs.Tryd.prog 23 [.l (.sl (l.map Pr.row))] M fun r M' => ∃ id, (∀ j, id ≤ j → M j = none) ∧ r = .l (.ptr id 0 0) ∧ M' = M.set id (mapB (putL l)) := by
  refine xcalls_intro (rs := [.tmp 2]) Go.Proofs.Tryd.func23 rfl (by kernel_rfl) rfl rfl (by kernel_rfl) (by simp) ?_
  simp -implicitDefEqProofs (maxSteps := 1000000) (disch := omega) only [↓xsP, ↓vc_seq, xsQ, xsT, xsR, xsD, ↓reduceIte, reduceCtorEq, eq_self, ne_eq, imp_self, forall_const, Nat.reduceEqDiff, Nat.reduceAdd, Nat.reduceSub, Nat.reduceMul, Nat.reduceLT, Nat.reduceLeDiff, Nat.reduceBEq, Nat.reduceDiv, Nat.reduceMod, Int.reduceToNat, Int.reduceNeg, Int.reduceAdd, Int.reduceSub, Int.reduceMul, Int.reduceEq, Int.reduceNe, Int.reduceLT, Int.reduceLE, Int.reduceGT, Int.reduceGE]
  refine newI_intro fun id hid => ?_
  simp -implicitDefEqProofs (maxSteps := 1000000) (disch := omega) only [↓xsP, ↓vc_seq, xsQ, xsT, xsR, xsD, ↓reduceIte, reduceCtorEq, eq_self, ne_eq, imp_self, forall_const, Nat.reduceEqDiff, Nat.reduceAdd, Nat.reduceSub, Nat.reduceMul, Nat.reduceLT, Nat.reduceLeDiff, Nat.reduceBEq, Nat.reduceDiv, Nat.reduceMod, Int.reduceToNat, Int.reduceNeg, Int.reduceAdd, Int.reduceSub, Int.reduceMul, Int.reduceEq, Int.reduceNe, Int.reduceLT, Int.reduceLE, Int.reduceGT, Int.reduceGE]
  refine loopI_gs (GStep.wk (Mem.set_eq _ _ _)) ?_
  simp -implicitDefEqProofs (maxSteps := 1000000) (disch := omega) only [↓xsP, ↓vc_seq, xsQ, xsT, xsR, xsD, ↓reduceIte, reduceCtorEq, eq_self, ne_eq, imp_self, forall_const, Nat.reduceEqDiff, Nat.reduceAdd, Nat.reduceSub, Nat.reduceMul, Nat.reduceLT, Nat.reduceLeDiff, Nat.reduceBEq, Nat.reduceDiv, Nat.reduceMod, Int.reduceToNat, Int.reduceNeg, Int.reduceAdd, Int.reduceSub, Int.reduceMul, Int.reduceEq, Int.reduceNe, Int.reduceLT, Int.reduceLE, Int.reduceGT, Int.reduceGE]
  refine xloopG (by kernel_rfl) (fun k fr M' => ∃ i : Nat, i ≤ l.length ∧ k = l.length - i ∧ fr 3 = .l (.ptr id 0 0) ∧ fr 8 = .l (.sl (l.map Pr.row)) ∧ fr 9 = .l (.int .i64 l.length) ∧ fr 10 = .l (.int .i64 i) ∧ M' = M.set id (mapB (putL (l.take i)))) l.length ?_ ?_
  · refine ⟨0, Nat.zero_le _, rfl, ?_, ?_, ?_, ?_, ?_⟩
    · simp -implicitDefEqProofs (maxSteps := 1000000) (disch := omega) only [↓xsP, ↓vc_seq, xsQ, xsT, xsR, xsD, ↓reduceIte, reduceCtorEq, eq_self, ne_eq, imp_self, forall_const, Nat.reduceEqDiff, Nat.reduceAdd, Nat.reduceSub, Nat.reduceMul, Nat.reduceLT, Nat.reduceLeDiff, Nat.reduceBEq, Nat.reduceDiv, Nat.reduceMod, Int.reduceToNat, Int.reduceNeg, Int.reduceAdd, Int.reduceSub, Int.reduceMul, Int.reduceEq, Int.reduceNe, Int.reduceLT, Int.reduceLE, Int.reduceGT, Int.reduceGE]
    · simp -implicitDefEqProofs (maxSteps := 1000000) (disch := omega) only [↓xsP, ↓vc_seq, xsQ, xsT, xsR, xsD, ↓reduceIte, reduceCtorEq, eq_self, ne_eq, imp_self, forall_const, Nat.reduceEqDiff, Nat.reduceAdd, Nat.reduceSub, Nat.reduceMul, Nat.reduceLT, Nat.reduceLeDiff, Nat.reduceBEq, Nat.reduceDiv, Nat.reduceMod, Int.reduceToNat, Int.reduceNeg, Int.reduceAdd, Int.reduceSub, Int.reduceMul, Int.reduceEq, Int.reduceNe, Int.reduceLT, Int.reduceLE, Int.reduceGT, Int.reduceGE]
    · simp -implicitDefEqProofs (maxSteps := 1000000) (disch := omega) only [↓xsP, ↓vc_seq, xsQ, xsT, xsR, xsD, ↓reduceIte, reduceCtorEq, eq_self, ne_eq, imp_self, forall_const, Nat.reduceEqDiff, Nat.reduceAdd, Nat.reduceSub, Nat.reduceMul, Nat.reduceLT, Nat.reduceLeDiff, Nat.reduceBEq, Nat.reduceDiv, Nat.reduceMod, Int.reduceToNat, Int.reduceNeg, Int.reduceAdd, Int.reduceSub, Int.reduceMul, Int.reduceEq, Int.reduceNe, Int.reduceLT, Int.reduceLE, Int.reduceGT, Int.reduceGE]
    · simp -implicitDefEqProofs (maxSteps := 1000000) (disch := omega) only [↓xsP, ↓vc_seq, xsQ, xsT, xsR, xsD, ↓reduceIte, reduceCtorEq, eq_self, ne_eq, imp_self, forall_const, Nat.reduceEqDiff, Nat.reduceAdd, Nat.reduceSub, Nat.reduceMul, Nat.reduceLT, Nat.reduceLeDiff, Nat.reduceBEq, Nat.reduceDiv, Nat.reduceMod, Int.reduceToNat, Int.reduceNeg, Int.reduceAdd, Int.reduceSub, Int.reduceMul, Int.reduceEq, Int.reduceNe, Int.reduceLT, Int.reduceLE, Int.reduceGT, Int.reduceGE, Int.ofNat_zero]
    · rw [List.take_zero]
      rfl
  · rintro k fr M' ⟨i, hi, rfl, h3, h8, h9, h10, rfl⟩
    simp -implicitDefEqProofs (maxSteps := 1000000) (disch := omega) only [↓xsP, ↓vc_seq, xsQ, xsT, xsR, xsD, ↓reduceIte, reduceCtorEq, eq_self, ne_eq, imp_self, forall_const, Nat.reduceEqDiff, Nat.reduceAdd, Nat.reduceSub, Nat.reduceMul, Nat.reduceLT, Nat.reduceLeDiff, Nat.reduceBEq, Nat.reduceDiv, Nat.reduceMod, Int.reduceToNat, Int.reduceNeg, Int.reduceAdd, Int.reduceSub, Int.reduceMul, Int.reduceEq, Int.reduceNe, Int.reduceLT, Int.reduceLE, Int.reduceGT, Int.reduceGE, h3, h8, h9, h10]
    refine condI_prop (fun hp => ?_) (fun hp => ?_)
    · have hi' : i < l.length := by omega
      simp -implicitDefEqProofs (maxSteps := 1000000) (disch := omega) only [↓xsP, ↓vc_seq, xsQ, xsT, xsR, xsD, ↓reduceIte, reduceCtorEq, eq_self, ne_eq, imp_self, forall_const, Nat.reduceEqDiff, Nat.reduceAdd, Nat.reduceSub, Nat.reduceMul, Nat.reduceLT, Nat.reduceLeDiff, Nat.reduceBEq, Nat.reduceDiv, Nat.reduceMod, Int.reduceToNat, Int.reduceNeg, Int.reduceAdd, Int.reduceSub, Int.reduceMul, Int.reduceEq, Int.reduceNe, Int.reduceLT, Int.reduceLE, Int.reduceGT, Int.reduceGE, h3, h8, h9, h10]
      refine newI_intro fun p5 hp5 => ?_
      have hg : l[i]? = some (l.getD i default) := by rw [List.getD_eq_getElem?_getD, List.getElem?_eq_getElem hi']; rfl
      generalize hq : l.getD i default = q at hg
      simp -implicitDefEqProofs (maxSteps := 1000000) (disch := omega) only [↓xsP, ↓vc_seq, xsQ, xsT, xsR, xsD, ↓reduceIte, reduceCtorEq, eq_self, ne_eq, imp_self, forall_const, Nat.reduceEqDiff, Nat.reduceAdd, Nat.reduceSub, Nat.reduceMul, Nat.reduceLT, Nat.reduceLeDiff, Nat.reduceBEq, Nat.reduceDiv, Nat.reduceMod, Int.reduceToNat, Int.reduceNeg, Int.reduceAdd, Int.reduceSub, Int.reduceMul, Int.reduceEq, Int.reduceNe, Int.reduceLT, Int.reduceLE, Int.reduceGT, Int.reduceGE, h3, h8, h9, h10, hg]
      refine callI_of ((modelDo_spec (putL (l.take i)) (by have := putL_len (l.take i); rw [List.length_take] at this; omega) (putOp q) id _ ?_).mono ?_)
      · have h5 := lt_of_bnd hp5 (Mem.set_eq _ _ _)
        simp (disch := omega) only [Mem.set_eq, Mem.set_ne]
      · rintro _ _ ⟨rfl, rfl⟩
        have h5 := lt_of_bnd hp5 (Mem.set_eq _ _ _)
        have hpM := (bnd_new hp5).2
        simp -implicitDefEqProofs (maxSteps := 1000000) (disch := omega) only [↓xsP, ↓vc_seq, xsQ, xsT, xsR, xsD, ↓reduceIte, reduceCtorEq, eq_self, ne_eq, imp_self, forall_const, Nat.reduceEqDiff, Nat.reduceAdd, Nat.reduceSub, Nat.reduceMul, Nat.reduceLT, Nat.reduceLeDiff, Nat.reduceBEq, Nat.reduceDiv, Nat.reduceMod, Int.reduceToNat, Int.reduceNeg, Int.reduceAdd, Int.reduceSub, Int.reduceMul, Int.reduceEq, Int.reduceNe, Int.reduceLT, Int.reduceLE, Int.reduceGT, Int.reduceGE, h3, h8, h9, h10]
        refine ⟨_, _, ?_, GStep.le (le_seti (N := _) (b := mapB (putL (l.take (i + 1)))) (M := M) ?_ fun k bk hk h => ?_), i + 1, by omega, rfl, rfl, rfl⟩
        · omega
        · rw [putL_take _ hi', hq, Mem.set_eq]
        · have := lt_of_bnd hid h
          simp (disch := omega) only [Mem.set_ne, h]
    · have hi' : i = l.length := by omega
      subst hi'
      simp -implicitDefEqProofs (maxSteps := 1000000) (disch := omega) only [↓xsP, ↓vc_seq, xsQ, xsT, xsR, xsD, ↓reduceIte, reduceCtorEq, eq_self, ne_eq, imp_self, forall_const, Nat.reduceEqDiff, Nat.reduceAdd, Nat.reduceSub, Nat.reduceMul, Nat.reduceLT, Nat.reduceLeDiff, Nat.reduceBEq, Nat.reduceDiv, Nat.reduceMod, Int.reduceToNat, Int.reduceNeg, Int.reduceAdd, Int.reduceSub, Int.reduceMul, Int.reduceEq, Int.reduceNe, Int.reduceLT, Int.reduceLE, Int.reduceGT, Int.reduceGE, h3]
      refine fin_ok (Mem.le_refl _) ⟨id, hid, rfl, ?_⟩
      rw [List.take_length]

/-- A slice of operations, kept or of a live block. -/
def OpsIs (M : Mem) (s : Lf) (l : List Opn) : Prop := ∃ ido keep, (s = .sl (l.map Opn.row) ∧ True) ∨ (s = .ms ido 0 l.length ∧ M ido = some (.cells 25 (l.map Opn.row) keep))
theorem OpsIs.sl (M : Mem) (l : List Opn) : OpsIs M (.sl (l.map Opn.row)) l := ⟨0, 0, .inl ⟨rfl, trivial⟩⟩
theorem OpsIs.ms {M : Mem} {l : List Opn} {id n keep : Nat} {rows : List (List Lf)} (h : M id = some (.cells 25 rows keep)) (hr : rows = l.map Opn.row) (hn : n = l.length) : OpsIs M (.ms id 0 n) l := ⟨id, keep, .inr ⟨by rw [hn], by rw [h, hr]⟩⟩
theorem take_snoc {α : Type} [Inhabited α] (l : List α) {i : Nat} (hi : i < l.length) : l.take (i + 1) = l.take i ++ [l.getD i default] := by
  rw [List.take_add_one, List.getD_eq_getElem?_getD, List.getElem?_eq_getElem hi]
  rfl
theorem copy_spec (s : List Pr) (hl : s.length ≤ 1000001) (id : Nat) (M : Mem) (hM : M id = some (mapB s)) :
    XCalls Go.Proofs.Tryd.prog 36 [.l (.ptr id 0 0)] M fun r M' => ∃ id2, (∀ j, id2 ≤ j → M j = none) ∧ r = .l (.ptr id2 0 0) ∧ M' = M.set id2 (mapB s) := by
  refine xcalls_intro (rs := [.tmp 2]) Go.Proofs.Tryd.func36 rfl (by kernel_rfl) rfl rfl (by kernel_rfl) (by simp) ?_
  simp -implicitDefEqProofs (maxSteps := 1000000) (disch := omega) only [↓xsP, ↓vc_seq, xsQ, xsT, xsR, xsD, ↓reduceIte, reduceCtorEq, eq_self, ne_eq, imp_self, forall_const, Nat.reduceEqDiff, Nat.reduceAdd, Nat.reduceSub, Nat.reduceMul, Nat.reduceLT, Nat.reduceLeDiff, Nat.reduceBEq, Nat.reduceDiv, Nat.reduceMod, Int.reduceToNat, Int.reduceNeg, Int.reduceAdd, Int.reduceSub, Int.reduceMul, Int.reduceEq, Int.reduceNe, Int.reduceLT, Int.reduceLE, Int.reduceGT, Int.reduceGE, hM, mapB]
  refine call_of (clone_spec s hl M) ?_
  simp -implicitDefEqProofs (maxSteps := 1000000) (disch := omega) only [↓xsP, ↓vc_seq, xsQ, xsT, xsR, xsD, ↓reduceIte, reduceCtorEq, eq_self, ne_eq, imp_self, forall_const, Nat.reduceEqDiff, Nat.reduceAdd, Nat.reduceSub, Nat.reduceMul, Nat.reduceLT, Nat.reduceLeDiff, Nat.reduceBEq, Nat.reduceDiv, Nat.reduceMod, Int.reduceToNat, Int.reduceNeg, Int.reduceAdd, Int.reduceSub, Int.reduceMul, Int.reduceEq, Int.reduceNe, Int.reduceLT, Int.reduceLE, Int.reduceGT, Int.reduceGE]
  refine newI_intro fun p hp => ?_
  simp -implicitDefEqProofs (maxSteps := 1000000) (disch := omega) only [↓xsP, ↓vc_seq, xsQ, xsT, xsR, xsD, ↓reduceIte, reduceCtorEq, eq_self, ne_eq, imp_self, forall_const, Nat.reduceEqDiff, Nat.reduceAdd, Nat.reduceSub, Nat.reduceMul, Nat.reduceLT, Nat.reduceLeDiff, Nat.reduceBEq, Nat.reduceDiv, Nat.reduceMod, Int.reduceToNat, Int.reduceNeg, Int.reduceAdd, Int.reduceSub, Int.reduceMul, Int.reduceEq, Int.reduceNe, Int.reduceLT, Int.reduceLE, Int.reduceGT, Int.reduceGE]
  exact fin_ok (Mem.le_refl _) ⟨p, hp, rfl, rfl⟩

theorem asc1 (p : Pr) : Asc [p] := by simp [Asc]
end Go.X
set_option linter.unusedVariables false
set_option maxRecDepth 100000
namespace Go.X

theorem putL_asc (l : List Pr) : Asc (putL l) := by
  have key : ∀ (l s : List Pr), Asc s → Asc (l.foldl (fun s p => doL s (putOp p)) s) := by
    intro l
    induction l with
    | nil => intro s h; exact h
    | cons p r ih => intro s h; exact ih _ (doL_asc _ h)
  exact key l [] (by simp [Asc])
theorem put_look {s : List Pr} (h : Asc s) (p : Pr) (k : Int) : look (doL s (putOp p)) k = if k = p.key then some p.val else look s k := by
  rw [doL_look h (by simp [mayOpB, putOp]) (by simp [putOp]), upd1.eq_def]
  simp [putOp]
/-- The last value of a key. -/
def lastV (k : Int) (o : Option Int) (l : List Pr) : Option Int := l.foldl (fun o p => if k = p.key then some p.val else o) o
theorem puts_look (k : Int) : ∀ (l s : List Pr), Asc s → look (l.foldl (fun s p => doL s (putOp p)) s) k = lastV k (look s k) l
  | [], s, _ => rfl
  | p :: r, s, h => by
    rw [List.foldl_cons, puts_look k r _ (doL_asc _ h), put_look h]
    rfl
theorem putL_look (l : List Pr) (k : Int) : look (putL l) k = lastV k none l := puts_look k l [] (by simp [Asc])
end Go.X
set_option linter.unusedVariables false
set_option linter.unusedSimpArgs false
set_option maxHeartbeats 20000000
set_option maxRecDepth 100000
namespace Go.X
open Go.Proofs.Tryd (prog)

/-- A row of pairs that is being made by append: its slice and the memory. -/
def OutP (M : Mem) (v : AV) (M' : Mem) (rows : List Pr) : Prop :=
  (rows = [] ∧ v = .l .nils ∧ M' = M) ∨ ∃ idO, (∀ j, idO ≤ j → M j = none) ∧ v = .l (.ms idO 0 rows.length) ∧ M' = M.set idO (.cells 32 (rows.map Pr.row) 0)
theorem OutP.nil (M : Mem) : OutP M (.l .nils) M [] := .inl ⟨rfl, rfl, rfl⟩
theorem OutP.base {M M' : Mem} {v : AV} {rows : List Pr} (h : OutP M v M' rows) : M.le M' := by
  rcases h with ⟨_, _, rfl⟩ | ⟨idO, hO, _, rfl⟩
  · exact Mem.le_refl _
  · exact le_new (Mem.le_refl _) hO
theorem le_none {M N : Mem} (h : M.le N) {n : Nat} (hn : ∀ j, n ≤ j → N j = none) : ∀ j, n ≤ j → M j = none := fun j hj => by
  cases hq : M j with
  | none => rfl
  | some b => have := h _ _ hq; rw [hn j hj] at this; cases this
theorem OutP.val {M M' : Mem} {v : AV} {rows : List Pr} (h : OutP M v M' rows) : ∃ s, v = .l s := by
  rcases h with ⟨_, rfl, _⟩ | ⟨idO, _, rfl, _⟩
  · exact ⟨_, rfl⟩
  · exact ⟨_, rfl⟩
theorem app_out {M M' N : Mem} {v : AV} {rows : List Pr} {p : Pr} {pb : Nat} (h : OutP M v M' rows) (hle : M'.le N) (hb : ∀ j, pb ≤ j → N j = none) (hlen : rows.length ≤ 1000001) {K : AV → Mem → Prop}
    (hc : ∀ v' N' M2, OutP M v' M2 (rows ++ [p]) → M2.le N' → (∀ k bk, N k = some bk → M' k = none → N' k = some bk) → K v' N') :
    @appI Go.Proofs.Tryd.prog (N.set pb (.cells 32 [p.row] 0)) 22 22 v (.l (.ms pb 0 1)) ⟨K⟩ := by
  have hMM := h.base
  rcases h with ⟨rfl, rfl, rfl⟩ | ⟨idO, hO, rfl, rfl⟩
  · refine app_nils _ _ _ _ 32 _ _ ti_22 rfl ti_32 (by kernel_rfl) (by decide) _ [p.row] ?_ ?_ ?_ ?_ ?_
    · simp -implicitDefEqProofs (maxSteps := 1000000) (disch := omega) only [↓xsP, ↓vc_seq, xsQ, xsT, xsR, xsD, ↓reduceIte, reduceCtorEq, eq_self, ne_eq, imp_self, forall_const, Nat.reduceEqDiff, Nat.reduceAdd, Nat.reduceSub, Nat.reduceMul, Nat.reduceLT, Nat.reduceLeDiff, Nat.reduceBEq, Nat.reduceDiv, Nat.reduceMod, Int.reduceToNat, Int.reduceNeg, Int.reduceAdd, Int.reduceSub, Int.reduceMul, Int.reduceEq, Int.reduceNe, Int.reduceLT, Int.reduceLE, Int.reduceGT, Int.reduceGE]
    · simp
    · simp
    · simp
    · intro _ idA hidA
      obtain ⟨hbA, hA⟩ := bnd_new hidA
      have hM := le_none hle hA
      refine hc _ _ _ (.inr ⟨idA, hM, rfl, rfl⟩) (le_seti (Mem.set_eq _ _ _) fun k bk hk hh => ?_) fun k bk hk _ => ?_
      · have h1 := hle _ _ hh
        have := lt_of_bnd hb h1
        have := lt_of_bnd hA h1
        rw [Mem.set_ne _ _ _ _ (by omega), Mem.set_ne _ _ _ _ (by omega)]
        exact h1
      · have := lt_of_bnd hb hk
        have := lt_of_bnd hA hk
        rw [Mem.set_ne _ _ _ _ (by omega), Mem.set_ne _ _ _ _ (by omega)]
        exact hk
  · have hNO : N idO = some (.cells 32 (rows.map Pr.row) 0) := hle _ _ (Mem.set_eq _ _ _)
    have hOb := lt_of_bnd hb hNO
    refine app_ms _ _ _ _ 32 _ _ ti_22 rfl ti_32 (by kernel_rfl) (by decide) idO rows.length _ (rows := rows.map Pr.row) (keep := 0) [p.row] ?_ ?_ ?_ (Nat.zero_le _) ?_ ?_ ?_
    · rw [Mem.set_ne _ _ _ _ (by omega)]; exact hNO
    · simp -implicitDefEqProofs (maxSteps := 1000000) (disch := omega) only [↓xsP, ↓vc_seq, xsQ, xsT, xsR, xsD, ↓reduceIte, reduceCtorEq, eq_self, ne_eq, imp_self, forall_const, Nat.reduceEqDiff, Nat.reduceAdd, Nat.reduceSub, Nat.reduceMul, Nat.reduceLT, Nat.reduceLeDiff, Nat.reduceBEq, Nat.reduceDiv, Nat.reduceMod, Int.reduceToNat, Int.reduceNeg, Int.reduceAdd, Int.reduceSub, Int.reduceMul, Int.reduceEq, Int.reduceNe, Int.reduceLT, Int.reduceLE, Int.reduceGT, Int.reduceGE]
    · simp
    · exact Nat.le_trans (Nat.mul_le_mul_right _ (show rows.length + [p.row].length ≤ 1000002 by simp; omega)) (by decide)
    · simp
      omega
    · intro idA hidA
      obtain ⟨hbA, hA⟩ := bnd_new hidA
      have hM := le_none hMM (le_none hle hA)
      have hOA := lt_of_bnd hA hNO
      refine hc _ _ _ (.inr ⟨idA, hM, by simp, rfl⟩) (le_seti ?_ fun k bk hk hh => ?_) fun k bk hk hn => ?_
      · rw [Mem.set_eq, List.take_of_length_le (by simp), List.map_append]
        rfl
      · have h0 := lt_of_bnd hO hh
        have h1 := hle _ _ (hMM _ _ hh)
        have := lt_of_bnd hb h1
        have := lt_of_bnd hA h1
        rw [Mem.set_ne _ _ _ _ (by omega), Mem.del_ne _ _ _ (by omega), Mem.set_ne _ _ _ _ (by omega)]
        exact h1
      · have hne : idO ≠ k := fun e => by subst e; rw [Mem.set_eq] at hn; cases hn
        have := lt_of_bnd hb hk
        have := lt_of_bnd hA hk
        rw [Mem.set_ne _ _ _ _ (by omega), Mem.del_ne _ _ _ hne, Mem.set_ne _ _ _ _ (by omega)]
        exact hk
theorem fin_out {M M' N : Mem} {v : AV} {rows : List Pr} {K : AV → Mem → Prop} (h : OutP M v M' rows) (hle : M'.le N) {M0 : Mem} (h0 : M0.le M) (hK : K (.l (.sl (rows.map Pr.row))) M0) : @finI Go.Proofs.Tryd.prog v N ⟨K⟩ := by
  refine finI_of ?_
  rcases h with ⟨rfl, rfl, rfl⟩ | ⟨idO, hO, rfl, rfl⟩
  · exact XFin.wk (XFin.le (fun k bk hk => hle _ _ (h0 _ _ hk)) hK)
  · refine XFin.frz idO (hle _ _ (Mem.set_eq _ _ _)) (XFin.le (fun k bk hk => ?_) (M' := M0) ?_)
    · have hk' := h0 _ _ hk
      have := lt_of_bnd hO hk'
      rw [Mem.set_ne _ _ _ _ (by omega)]
      exact hle _ _ (le_new (Mem.le_refl _) hO _ _ hk')
    · have e : frzA idO (rows.map Pr.row) (.l (.ms idO 0 rows.length)) = .l (.sl (rows.map Pr.row)) := by simp [frzA, frz1, frzL, List.take_of_length_le]
      rw [e]
      exact hK

theorem filter_take {q : Pr → Bool} {l : List Pr} {i : Nat} (hi : i < l.length) : (l.take (i + 1)).filter q = if q (l.getD i default) then (l.take i).filter q ++ [l.getD i default] else (l.take i).filter q := by
  rw [take_snoc l hi, List.filter_append]
  generalize l.getD i default = x
  cases h : q x
  · rw [List.filter_cons, h]; simp
  · rw [List.filter_cons, h]; simp
theorem filter_take_len (q : Pr → Bool) (l : List Pr) (i : Nat) : ((l.take i).filter q).length ≤ l.length := by
  have h1 := List.length_filter_le q (l.take i)
  rw [List.length_take] at h1
  omega

theorem without_spec (l : List Pr) (hl : l.length ≤ 1000001) (key : Int) (M : Mem) :
    XCalls Go.Proofs.Tryd.prog 26 [.l (.sl (l.map Pr.row)), .l (.int .i64 key)] M fun r M' => r = .l (.sl ((l.filter fun p => decide (p.key ≠ key)).map Pr.row)) ∧ M' = M := by
  refine xcalls_intro (rs := [.tmp 4]) Go.Proofs.Tryd.func26 rfl (by kernel_rfl) rfl rfl (by kernel_rfl) (by simp) ?_
  simp -implicitDefEqProofs (maxSteps := 1000000) (disch := omega) only [↓xsP, ↓vc_seq, xsQ, xsT, xsR, xsD, ↓reduceIte, reduceCtorEq, eq_self, ne_eq, imp_self, forall_const, Nat.reduceEqDiff, Nat.reduceAdd, Nat.reduceSub, Nat.reduceMul, Nat.reduceLT, Nat.reduceLeDiff, Nat.reduceBEq, Nat.reduceDiv, Nat.reduceMod, Int.reduceToNat, Int.reduceNeg, Int.reduceAdd, Int.reduceSub, Int.reduceMul, Int.reduceEq, Int.reduceNe, Int.reduceLT, Int.reduceLE, Int.reduceGT, Int.reduceGE]
  refine loopI_of (xloop (by kernel_rfl) (fun k fr M' => ∃ i : Nat, i ≤ l.length ∧ k = l.length - i ∧ fr 1 = .l (.int .i64 key) ∧ fr 8 = .l (.sl (l.map Pr.row)) ∧ fr 9 = .l (.int .i64 l.length) ∧ fr 10 = .l (.int .i64 i) ∧ OutP M (fr 5) M' ((l.take i).filter fun p => decide (p.key ≠ key))) l.length ?_ ?_)
  · refine ⟨0, Nat.zero_le _, rfl, by simp -implicitDefEqProofs (maxSteps := 1000000) (disch := omega) only [↓xsP, ↓vc_seq, xsQ, xsT, xsR, xsD, ↓reduceIte, reduceCtorEq, eq_self, ne_eq, imp_self, forall_const, Nat.reduceEqDiff, Nat.reduceAdd, Nat.reduceSub, Nat.reduceMul, Nat.reduceLT, Nat.reduceLeDiff, Nat.reduceBEq, Nat.reduceDiv, Nat.reduceMod, Int.reduceToNat, Int.reduceNeg, Int.reduceAdd, Int.reduceSub, Int.reduceMul, Int.reduceEq, Int.reduceNe, Int.reduceLT, Int.reduceLE, Int.reduceGT, Int.reduceGE], by simp -implicitDefEqProofs (maxSteps := 1000000) (disch := omega) only [↓xsP, ↓vc_seq, xsQ, xsT, xsR, xsD, ↓reduceIte, reduceCtorEq, eq_self, ne_eq, imp_self, forall_const, Nat.reduceEqDiff, Nat.reduceAdd, Nat.reduceSub, Nat.reduceMul, Nat.reduceLT, Nat.reduceLeDiff, Nat.reduceBEq, Nat.reduceDiv, Nat.reduceMod, Int.reduceToNat, Int.reduceNeg, Int.reduceAdd, Int.reduceSub, Int.reduceMul, Int.reduceEq, Int.reduceNe, Int.reduceLT, Int.reduceLE, Int.reduceGT, Int.reduceGE], by simp -implicitDefEqProofs (maxSteps := 1000000) (disch := omega) only [↓xsP, ↓vc_seq, xsQ, xsT, xsR, xsD, ↓reduceIte, reduceCtorEq, eq_self, ne_eq, imp_self, forall_const, Nat.reduceEqDiff, Nat.reduceAdd, Nat.reduceSub, Nat.reduceMul, Nat.reduceLT, Nat.reduceLeDiff, Nat.reduceBEq, Nat.reduceDiv, Nat.reduceMod, Int.reduceToNat, Int.reduceNeg, Int.reduceAdd, Int.reduceSub, Int.reduceMul, Int.reduceEq, Int.reduceNe, Int.reduceLT, Int.reduceLE, Int.reduceGT, Int.reduceGE], by simp -implicitDefEqProofs (maxSteps := 1000000) (disch := omega) only [↓xsP, ↓vc_seq, xsQ, xsT, xsR, xsD, ↓reduceIte, reduceCtorEq, eq_self, ne_eq, imp_self, forall_const, Nat.reduceEqDiff, Nat.reduceAdd, Nat.reduceSub, Nat.reduceMul, Nat.reduceLT, Nat.reduceLeDiff, Nat.reduceBEq, Nat.reduceDiv, Nat.reduceMod, Int.reduceToNat, Int.reduceNeg, Int.reduceAdd, Int.reduceSub, Int.reduceMul, Int.reduceEq, Int.reduceNe, Int.reduceLT, Int.reduceLE, Int.reduceGT, Int.reduceGE, Int.cast_ofNat_Int], ?_⟩
    simp -implicitDefEqProofs (maxSteps := 1000000) (disch := omega) only [↓xsP, ↓vc_seq, xsQ, xsT, xsR, xsD, ↓reduceIte, reduceCtorEq, eq_self, ne_eq, imp_self, forall_const, Nat.reduceEqDiff, Nat.reduceAdd, Nat.reduceSub, Nat.reduceMul, Nat.reduceLT, Nat.reduceLeDiff, Nat.reduceBEq, Nat.reduceDiv, Nat.reduceMod, Int.reduceToNat, Int.reduceNeg, Int.reduceAdd, Int.reduceSub, Int.reduceMul, Int.reduceEq, Int.reduceNe, Int.reduceLT, Int.reduceLE, Int.reduceGT, Int.reduceGE]
    exact OutP.nil M
  · rintro k fr M' ⟨i, hi, rfl, h1, h8, h9, h10, hO⟩
    obtain ⟨s5, h5⟩ := hO.val
    rw [h5] at hO
    simp -implicitDefEqProofs (maxSteps := 1000000) (disch := omega) only [↓xsP, ↓vc_seq, xsQ, xsT, xsR, xsD, ↓reduceIte, reduceCtorEq, eq_self, ne_eq, imp_self, forall_const, Nat.reduceEqDiff, Nat.reduceAdd, Nat.reduceSub, Nat.reduceMul, Nat.reduceLT, Nat.reduceLeDiff, Nat.reduceBEq, Nat.reduceDiv, Nat.reduceMod, Int.reduceToNat, Int.reduceNeg, Int.reduceAdd, Int.reduceSub, Int.reduceMul, Int.reduceEq, Int.reduceNe, Int.reduceLT, Int.reduceLE, Int.reduceGT, Int.reduceGE, h5, h1, h8, h9, h10]
    refine condI_prop (fun hlt => ?_) (fun hlt => ?_)
    · have hi' : i < l.length := by omega
      have hft := filter_take (q := fun p => decide (p.key ≠ key)) hi'
      have hfl := filter_take_len (fun p => decide (p.key ≠ key)) l i
      obtain ⟨q, hq⟩ : ∃ q, l.getD i default = q := ⟨_, rfl⟩
      rw [hq] at hft
      simp -implicitDefEqProofs (maxSteps := 1000000) (disch := omega) only [↓xsP, ↓vc_seq, xsQ, xsT, xsR, xsD, ↓reduceIte, reduceCtorEq, eq_self, ne_eq, imp_self, forall_const, Nat.reduceEqDiff, Nat.reduceAdd, Nat.reduceSub, Nat.reduceMul, Nat.reduceLT, Nat.reduceLeDiff, Nat.reduceBEq, Nat.reduceDiv, Nat.reduceMod, Int.reduceToNat, Int.reduceNeg, Int.reduceAdd, Int.reduceSub, Int.reduceMul, Int.reduceEq, Int.reduceNe, Int.reduceLT, Int.reduceLE, Int.reduceGT, Int.reduceGE, h5, h1, h8, h9, h10, hq]
      refine newI_intro fun p7 hp7 => ?_
      simp -implicitDefEqProofs (maxSteps := 1000000) (disch := omega) only [↓xsP, ↓vc_seq, xsQ, xsT, xsR, xsD, ↓reduceIte, reduceCtorEq, eq_self, ne_eq, imp_self, forall_const, Nat.reduceEqDiff, Nat.reduceAdd, Nat.reduceSub, Nat.reduceMul, Nat.reduceLT, Nat.reduceLeDiff, Nat.reduceBEq, Nat.reduceDiv, Nat.reduceMod, Int.reduceToNat, Int.reduceNeg, Int.reduceAdd, Int.reduceSub, Int.reduceMul, Int.reduceEq, Int.reduceNe, Int.reduceLT, Int.reduceLE, Int.reduceGT, Int.reduceGE, h5, h1, h8, h9, h10, hq]
      refine condI_prop (fun hk => ?_) (fun hk => ?_)
      · rw [if_pos (by simpa using hk)] at hft
        simp -implicitDefEqProofs (maxSteps := 1000000) (disch := omega) only [↓xsP, ↓vc_seq, xsQ, xsT, xsR, xsD, ↓reduceIte, reduceCtorEq, eq_self, ne_eq, imp_self, forall_const, Nat.reduceEqDiff, Nat.reduceAdd, Nat.reduceSub, Nat.reduceMul, Nat.reduceLT, Nat.reduceLeDiff, Nat.reduceBEq, Nat.reduceDiv, Nat.reduceMod, Int.reduceToNat, Int.reduceNeg, Int.reduceAdd, Int.reduceSub, Int.reduceMul, Int.reduceEq, Int.reduceNe, Int.reduceLT, Int.reduceLE, Int.reduceGT, Int.reduceGE, h5, h1, h8, h9, h10, hq]
        refine newI_intro fun pb hpb => ?_
        simp -implicitDefEqProofs (maxSteps := 1000000) (disch := omega) only [↓xsP, ↓vc_seq, xsQ, xsT, xsR, xsD, ↓reduceIte, reduceCtorEq, eq_self, ne_eq, imp_self, forall_const, Nat.reduceEqDiff, Nat.reduceAdd, Nat.reduceSub, Nat.reduceMul, Nat.reduceLT, Nat.reduceLeDiff, Nat.reduceBEq, Nat.reduceDiv, Nat.reduceMod, Int.reduceToNat, Int.reduceNeg, Int.reduceAdd, Int.reduceSub, Int.reduceMul, Int.reduceEq, Int.reduceNe, Int.reduceLT, Int.reduceLE, Int.reduceGT, Int.reduceGE, h5, h1, h8, h9, h10, hq]
        refine app_out (p := q) hO (le_new (Mem.le_refl _) hp7) hpb (by omega) fun v' N' M2 hO2 hle2 _ => ?_
        obtain ⟨s5', rfl⟩ := hO2.val
        simp -implicitDefEqProofs (maxSteps := 1000000) (disch := omega) only [↓xsP, ↓vc_seq, xsQ, xsT, xsR, xsD, ↓reduceIte, reduceCtorEq, eq_self, ne_eq, imp_self, forall_const, Nat.reduceEqDiff, Nat.reduceAdd, Nat.reduceSub, Nat.reduceMul, Nat.reduceLT, Nat.reduceLeDiff, Nat.reduceBEq, Nat.reduceDiv, Nat.reduceMod, Int.reduceToNat, Int.reduceNeg, Int.reduceAdd, Int.reduceSub, Int.reduceMul, Int.reduceEq, Int.reduceNe, Int.reduceLT, Int.reduceLE, Int.reduceGT, Int.reduceGE, h5, h1, h8, h9, h10, hq]
        exact ⟨l.length - (i + 1), M2, by omega, hle2, i + 1, by omega, rfl, rfl, by rw [hft]; exact hO2⟩
      · rw [if_neg (by simpa using hk)] at hft
        simp -implicitDefEqProofs (maxSteps := 1000000) (disch := omega) only [↓xsP, ↓vc_seq, xsQ, xsT, xsR, xsD, ↓reduceIte, reduceCtorEq, eq_self, ne_eq, imp_self, forall_const, Nat.reduceEqDiff, Nat.reduceAdd, Nat.reduceSub, Nat.reduceMul, Nat.reduceLT, Nat.reduceLeDiff, Nat.reduceBEq, Nat.reduceDiv, Nat.reduceMod, Int.reduceToNat, Int.reduceNeg, Int.reduceAdd, Int.reduceSub, Int.reduceMul, Int.reduceEq, Int.reduceNe, Int.reduceLT, Int.reduceLE, Int.reduceGT, Int.reduceGE, h5, h1, h8, h9, h10, hq]
        exact ⟨l.length - (i + 1), M', by omega, le_new (Mem.le_refl _) hp7, i + 1, by omega, rfl, rfl, by rw [hft]; exact hO⟩
    · have hi' : i = l.length := by omega
      subst hi'
      rw [List.take_length] at hO
      simp -implicitDefEqProofs (maxSteps := 1000000) (disch := omega) only [↓xsP, ↓vc_seq, xsQ, xsT, xsR, xsD, ↓reduceIte, reduceCtorEq, eq_self, ne_eq, imp_self, forall_const, Nat.reduceEqDiff, Nat.reduceAdd, Nat.reduceSub, Nat.reduceMul, Nat.reduceLT, Nat.reduceLeDiff, Nat.reduceBEq, Nat.reduceDiv, Nat.reduceMod, Int.reduceToNat, Int.reduceNeg, Int.reduceAdd, Int.reduceSub, Int.reduceMul, Int.reduceEq, Int.reduceNe, Int.reduceLT, Int.reduceLE, Int.reduceGT, Int.reduceGE, h5, h1, h8, h9, h10]
      exact fin_out hO (Mem.le_refl _) (Mem.le_refl _) ⟨rfl, rfl⟩

theorem rng_filter (l : List Pr) (lo hi : Int) : rng l lo hi = l.filter fun p => decide (lo ≤ p.key ∧ p.key ≤ hi) := by
  rw [rng, stays]
  refine List.filter_congr fun p _ => ?_
  by_cases h1 : p.key < lo
  · have h2 : ¬ (lo ≤ p.key ∧ p.key ≤ hi) := by omega
    simp [outside, h1, h2]
  · by_cases h3 : p.key > hi
    · have h2 : ¬ (lo ≤ p.key ∧ p.key ≤ hi) := by omega
      simp [outside, h1, h3, h2]
    · have h2 : lo ≤ p.key ∧ p.key ≤ hi := by omega
      simp [outside, h1, h3, h2]
theorem between_spec (l : List Pr) (hl : l.length ≤ 1000001) (lo hi : Int) (M : Mem) :
    XCalls Go.Proofs.Tryd.prog 27 [.l (.sl (l.map Pr.row)), .l (.int .i64 lo), .l (.int .i64 hi)] M fun r M' => r = .l (.sl ((rng l lo hi).map Pr.row)) ∧ M' = M := by
  rw [rng_filter]
  refine xcalls_intro (rs := [.tmp 6]) Go.Proofs.Tryd.func27 rfl (by kernel_rfl) rfl rfl (by kernel_rfl) (by simp) ?_
  simp -implicitDefEqProofs (maxSteps := 1000000) (disch := omega) only [↓xsP, ↓vc_seq, xsQ, xsT, xsR, xsD, ↓reduceIte, reduceCtorEq, eq_self, ne_eq, imp_self, forall_const, Nat.reduceEqDiff, Nat.reduceAdd, Nat.reduceSub, Nat.reduceMul, Nat.reduceLT, Nat.reduceLeDiff, Nat.reduceBEq, Nat.reduceDiv, Nat.reduceMod, Int.reduceToNat, Int.reduceNeg, Int.reduceAdd, Int.reduceSub, Int.reduceMul, Int.reduceEq, Int.reduceNe, Int.reduceLT, Int.reduceLE, Int.reduceGT, Int.reduceGE]
  refine loopI_of (xloop (by kernel_rfl) (fun k fr M' => ∃ i : Nat, i ≤ l.length ∧ k = l.length - i ∧ fr 1 = .l (.int .i64 lo) ∧ fr 2 = .l (.int .i64 hi) ∧ fr 10 = .l (.sl (l.map Pr.row)) ∧ fr 11 = .l (.int .i64 l.length) ∧ fr 12 = .l (.int .i64 i) ∧ OutP M (fr 7) M' ((l.take i).filter fun p => decide (lo ≤ p.key ∧ p.key ≤ hi))) l.length ?_ ?_)
  · refine ⟨0, Nat.zero_le _, rfl, by simp -implicitDefEqProofs (maxSteps := 1000000) (disch := omega) only [↓xsP, ↓vc_seq, xsQ, xsT, xsR, xsD, ↓reduceIte, reduceCtorEq, eq_self, ne_eq, imp_self, forall_const, Nat.reduceEqDiff, Nat.reduceAdd, Nat.reduceSub, Nat.reduceMul, Nat.reduceLT, Nat.reduceLeDiff, Nat.reduceBEq, Nat.reduceDiv, Nat.reduceMod, Int.reduceToNat, Int.reduceNeg, Int.reduceAdd, Int.reduceSub, Int.reduceMul, Int.reduceEq, Int.reduceNe, Int.reduceLT, Int.reduceLE, Int.reduceGT, Int.reduceGE], by simp -implicitDefEqProofs (maxSteps := 1000000) (disch := omega) only [↓xsP, ↓vc_seq, xsQ, xsT, xsR, xsD, ↓reduceIte, reduceCtorEq, eq_self, ne_eq, imp_self, forall_const, Nat.reduceEqDiff, Nat.reduceAdd, Nat.reduceSub, Nat.reduceMul, Nat.reduceLT, Nat.reduceLeDiff, Nat.reduceBEq, Nat.reduceDiv, Nat.reduceMod, Int.reduceToNat, Int.reduceNeg, Int.reduceAdd, Int.reduceSub, Int.reduceMul, Int.reduceEq, Int.reduceNe, Int.reduceLT, Int.reduceLE, Int.reduceGT, Int.reduceGE], by simp -implicitDefEqProofs (maxSteps := 1000000) (disch := omega) only [↓xsP, ↓vc_seq, xsQ, xsT, xsR, xsD, ↓reduceIte, reduceCtorEq, eq_self, ne_eq, imp_self, forall_const, Nat.reduceEqDiff, Nat.reduceAdd, Nat.reduceSub, Nat.reduceMul, Nat.reduceLT, Nat.reduceLeDiff, Nat.reduceBEq, Nat.reduceDiv, Nat.reduceMod, Int.reduceToNat, Int.reduceNeg, Int.reduceAdd, Int.reduceSub, Int.reduceMul, Int.reduceEq, Int.reduceNe, Int.reduceLT, Int.reduceLE, Int.reduceGT, Int.reduceGE], by simp -implicitDefEqProofs (maxSteps := 1000000) (disch := omega) only [↓xsP, ↓vc_seq, xsQ, xsT, xsR, xsD, ↓reduceIte, reduceCtorEq, eq_self, ne_eq, imp_self, forall_const, Nat.reduceEqDiff, Nat.reduceAdd, Nat.reduceSub, Nat.reduceMul, Nat.reduceLT, Nat.reduceLeDiff, Nat.reduceBEq, Nat.reduceDiv, Nat.reduceMod, Int.reduceToNat, Int.reduceNeg, Int.reduceAdd, Int.reduceSub, Int.reduceMul, Int.reduceEq, Int.reduceNe, Int.reduceLT, Int.reduceLE, Int.reduceGT, Int.reduceGE], by simp -implicitDefEqProofs (maxSteps := 1000000) (disch := omega) only [↓xsP, ↓vc_seq, xsQ, xsT, xsR, xsD, ↓reduceIte, reduceCtorEq, eq_self, ne_eq, imp_self, forall_const, Nat.reduceEqDiff, Nat.reduceAdd, Nat.reduceSub, Nat.reduceMul, Nat.reduceLT, Nat.reduceLeDiff, Nat.reduceBEq, Nat.reduceDiv, Nat.reduceMod, Int.reduceToNat, Int.reduceNeg, Int.reduceAdd, Int.reduceSub, Int.reduceMul, Int.reduceEq, Int.reduceNe, Int.reduceLT, Int.reduceLE, Int.reduceGT, Int.reduceGE, Int.cast_ofNat_Int], ?_⟩
    simp -implicitDefEqProofs (maxSteps := 1000000) (disch := omega) only [↓xsP, ↓vc_seq, xsQ, xsT, xsR, xsD, ↓reduceIte, reduceCtorEq, eq_self, ne_eq, imp_self, forall_const, Nat.reduceEqDiff, Nat.reduceAdd, Nat.reduceSub, Nat.reduceMul, Nat.reduceLT, Nat.reduceLeDiff, Nat.reduceBEq, Nat.reduceDiv, Nat.reduceMod, Int.reduceToNat, Int.reduceNeg, Int.reduceAdd, Int.reduceSub, Int.reduceMul, Int.reduceEq, Int.reduceNe, Int.reduceLT, Int.reduceLE, Int.reduceGT, Int.reduceGE]
    exact OutP.nil M
  · rintro k fr M' ⟨i, hi2, rfl, h1, h2, h8, h9, h10, hO⟩
    obtain ⟨s7, h7⟩ := hO.val
    rw [h7] at hO
    simp -implicitDefEqProofs (maxSteps := 1000000) (disch := omega) only [↓xsP, ↓vc_seq, xsQ, xsT, xsR, xsD, ↓reduceIte, reduceCtorEq, eq_self, ne_eq, imp_self, forall_const, Nat.reduceEqDiff, Nat.reduceAdd, Nat.reduceSub, Nat.reduceMul, Nat.reduceLT, Nat.reduceLeDiff, Nat.reduceBEq, Nat.reduceDiv, Nat.reduceMod, Int.reduceToNat, Int.reduceNeg, Int.reduceAdd, Int.reduceSub, Int.reduceMul, Int.reduceEq, Int.reduceNe, Int.reduceLT, Int.reduceLE, Int.reduceGT, Int.reduceGE, h7, h1, h2, h8, h9, h10]
    refine condI_prop (fun hlt => ?_) (fun hlt => ?_)
    · have hi' : i < l.length := by omega
      have hft := filter_take (q := fun p => decide (lo ≤ p.key ∧ p.key ≤ hi)) hi'
      have hfl := filter_take_len (fun p => decide (lo ≤ p.key ∧ p.key ≤ hi)) l i
      obtain ⟨q, hq⟩ : ∃ q, l.getD i default = q := ⟨_, rfl⟩
      rw [hq] at hft
      simp -implicitDefEqProofs (maxSteps := 1000000) (disch := omega) only [↓xsP, ↓vc_seq, xsQ, xsT, xsR, xsD, ↓reduceIte, reduceCtorEq, eq_self, ne_eq, imp_self, forall_const, Nat.reduceEqDiff, Nat.reduceAdd, Nat.reduceSub, Nat.reduceMul, Nat.reduceLT, Nat.reduceLeDiff, Nat.reduceBEq, Nat.reduceDiv, Nat.reduceMod, Int.reduceToNat, Int.reduceNeg, Int.reduceAdd, Int.reduceSub, Int.reduceMul, Int.reduceEq, Int.reduceNe, Int.reduceLT, Int.reduceLE, Int.reduceGT, Int.reduceGE, h7, h1, h2, h8, h9, h10, hq]
      refine newI_intro fun p9 hp9 => ?_
      simp -implicitDefEqProofs (maxSteps := 1000000) (disch := omega) only [↓xsP, ↓vc_seq, xsQ, xsT, xsR, xsD, ↓reduceIte, reduceCtorEq, eq_self, ne_eq, imp_self, forall_const, Nat.reduceEqDiff, Nat.reduceAdd, Nat.reduceSub, Nat.reduceMul, Nat.reduceLT, Nat.reduceLeDiff, Nat.reduceBEq, Nat.reduceDiv, Nat.reduceMod, Int.reduceToNat, Int.reduceNeg, Int.reduceAdd, Int.reduceSub, Int.reduceMul, Int.reduceEq, Int.reduceNe, Int.reduceLT, Int.reduceLE, Int.reduceGT, Int.reduceGE, h7, h1, h2, h8, h9, h10, hq]
      have hno : ¬ (lo ≤ q.key ∧ q.key ≤ hi) → OutP M (.l s7) M' ((l.take (i + 1)).filter fun p => decide (lo ≤ p.key ∧ p.key ≤ hi)) := fun hn => by
        rw [hft, if_neg (by simpa using hn)]
        exact hO
      refine gI_prop (fun hk => ?_) (fun hk => ?_)
      · simp -implicitDefEqProofs (maxSteps := 1000000) (disch := omega) only [↓xsP, ↓vc_seq, xsQ, xsT, xsR, xsD, ↓reduceIte, reduceCtorEq, eq_self, ne_eq, imp_self, forall_const, Nat.reduceEqDiff, Nat.reduceAdd, Nat.reduceSub, Nat.reduceMul, Nat.reduceLT, Nat.reduceLeDiff, Nat.reduceBEq, Nat.reduceDiv, Nat.reduceMod, Int.reduceToNat, Int.reduceNeg, Int.reduceAdd, Int.reduceSub, Int.reduceMul, Int.reduceEq, Int.reduceNe, Int.reduceLT, Int.reduceLE, Int.reduceGT, Int.reduceGE, h7, h1, h2, h8, h9, h10, hq, hk]
        refine condI_prop (fun hk2 => ?_) (fun hk2 => ?_)
        · rw [if_pos (by simp; omega)] at hft
          simp -implicitDefEqProofs (maxSteps := 1000000) (disch := omega) only [↓xsP, ↓vc_seq, xsQ, xsT, xsR, xsD, ↓reduceIte, reduceCtorEq, eq_self, ne_eq, imp_self, forall_const, Nat.reduceEqDiff, Nat.reduceAdd, Nat.reduceSub, Nat.reduceMul, Nat.reduceLT, Nat.reduceLeDiff, Nat.reduceBEq, Nat.reduceDiv, Nat.reduceMod, Int.reduceToNat, Int.reduceNeg, Int.reduceAdd, Int.reduceSub, Int.reduceMul, Int.reduceEq, Int.reduceNe, Int.reduceLT, Int.reduceLE, Int.reduceGT, Int.reduceGE, h7, h1, h2, h8, h9, h10, hq]
          refine newI_intro fun pb hpb => ?_
          simp -implicitDefEqProofs (maxSteps := 1000000) (disch := omega) only [↓xsP, ↓vc_seq, xsQ, xsT, xsR, xsD, ↓reduceIte, reduceCtorEq, eq_self, ne_eq, imp_self, forall_const, Nat.reduceEqDiff, Nat.reduceAdd, Nat.reduceSub, Nat.reduceMul, Nat.reduceLT, Nat.reduceLeDiff, Nat.reduceBEq, Nat.reduceDiv, Nat.reduceMod, Int.reduceToNat, Int.reduceNeg, Int.reduceAdd, Int.reduceSub, Int.reduceMul, Int.reduceEq, Int.reduceNe, Int.reduceLT, Int.reduceLE, Int.reduceGT, Int.reduceGE, h7, h1, h2, h8, h9, h10, hq]
          refine app_out (p := q) hO (le_new (Mem.le_refl _) hp9) hpb (by omega) fun v' N' M2 hO2 hle2 _ => ?_
          obtain ⟨s5', rfl⟩ := hO2.val
          simp -implicitDefEqProofs (maxSteps := 1000000) (disch := omega) only [↓xsP, ↓vc_seq, xsQ, xsT, xsR, xsD, ↓reduceIte, reduceCtorEq, eq_self, ne_eq, imp_self, forall_const, Nat.reduceEqDiff, Nat.reduceAdd, Nat.reduceSub, Nat.reduceMul, Nat.reduceLT, Nat.reduceLeDiff, Nat.reduceBEq, Nat.reduceDiv, Nat.reduceMod, Int.reduceToNat, Int.reduceNeg, Int.reduceAdd, Int.reduceSub, Int.reduceMul, Int.reduceEq, Int.reduceNe, Int.reduceLT, Int.reduceLE, Int.reduceGT, Int.reduceGE, h7, h1, h2, h8, h9, h10, hq]
          exact ⟨l.length - (i + 1), M2, by omega, hle2, i + 1, by omega, rfl, rfl, by rw [hft]; exact hO2⟩
        · simp -implicitDefEqProofs (maxSteps := 1000000) (disch := omega) only [↓xsP, ↓vc_seq, xsQ, xsT, xsR, xsD, ↓reduceIte, reduceCtorEq, eq_self, ne_eq, imp_self, forall_const, Nat.reduceEqDiff, Nat.reduceAdd, Nat.reduceSub, Nat.reduceMul, Nat.reduceLT, Nat.reduceLeDiff, Nat.reduceBEq, Nat.reduceDiv, Nat.reduceMod, Int.reduceToNat, Int.reduceNeg, Int.reduceAdd, Int.reduceSub, Int.reduceMul, Int.reduceEq, Int.reduceNe, Int.reduceLT, Int.reduceLE, Int.reduceGT, Int.reduceGE, h7, h1, h2, h8, h9, h10, hq]
          exact ⟨l.length - (i + 1), M', by omega, le_new (Mem.le_refl _) hp9, i + 1, by omega, rfl, rfl, hno (by omega)⟩
      · simp -implicitDefEqProofs (maxSteps := 1000000) (disch := omega) only [↓xsP, ↓vc_seq, xsQ, xsT, xsR, xsD, ↓reduceIte, reduceCtorEq, eq_self, ne_eq, imp_self, forall_const, Nat.reduceEqDiff, Nat.reduceAdd, Nat.reduceSub, Nat.reduceMul, Nat.reduceLT, Nat.reduceLeDiff, Nat.reduceBEq, Nat.reduceDiv, Nat.reduceMod, Int.reduceToNat, Int.reduceNeg, Int.reduceAdd, Int.reduceSub, Int.reduceMul, Int.reduceEq, Int.reduceNe, Int.reduceLT, Int.reduceLE, Int.reduceGT, Int.reduceGE, h7, h1, h2, h8, h9, h10, hq, hk]
        exact ⟨l.length - (i + 1), M', by omega, le_new (Mem.le_refl _) hp9, i + 1, by omega, rfl, rfl, hno (by omega)⟩
    · have hi' : i = l.length := by omega
      subst hi'
      rw [List.take_length] at hO
      simp -implicitDefEqProofs (maxSteps := 1000000) (disch := omega) only [↓xsP, ↓vc_seq, xsQ, xsT, xsR, xsD, ↓reduceIte, reduceCtorEq, eq_self, ne_eq, imp_self, forall_const, Nat.reduceEqDiff, Nat.reduceAdd, Nat.reduceSub, Nat.reduceMul, Nat.reduceLT, Nat.reduceLeDiff, Nat.reduceBEq, Nat.reduceDiv, Nat.reduceMod, Int.reduceToNat, Int.reduceNeg, Int.reduceAdd, Int.reduceSub, Int.reduceMul, Int.reduceEq, Int.reduceNe, Int.reduceLT, Int.reduceLE, Int.reduceGT, Int.reduceGE, h7, h1, h2, h8, h9, h10]
      exact fin_out hO (Mem.le_refl _) (Mem.le_refl _) ⟨rfl, rfl⟩

theorem findR_spec (l : List Pr) (hl : l.length ≤ 140737488355328) (key : Int) (M : Mem) :
    XCalls Go.Proofs.Tryd.prog 24 [.l (.sl (l.map Pr.row)), .l (.int .i64 key)] M fun r M' => r = .l (.int .i64 (place l key)) ∧ M' = M := by
  refine xcalls_intro (rs := [.tmp 4]) Go.Proofs.Tryd.func24 rfl (by kernel_rfl) rfl rfl (by kernel_rfl) (by simp) ?_
  have hstep : ∀ i, i < l.length → l.drop i = l.getD i default :: l.drop (i + 1) := fun i hi => drop_cons hi
  simp -implicitDefEqProofs (maxSteps := 1000000) (disch := omega) only [↓xsP, ↓vc_seq, xsQ, xsT, xsR, xsD, ↓reduceIte, reduceCtorEq, eq_self, ne_eq, imp_self, forall_const, Nat.reduceEqDiff, Nat.reduceAdd, Nat.reduceSub, Nat.reduceMul, Nat.reduceLT, Nat.reduceLeDiff, Nat.reduceBEq, Nat.reduceDiv, Nat.reduceMod, Int.reduceToNat, Int.reduceNeg, Int.reduceAdd, Int.reduceSub, Int.reduceMul, Int.reduceEq, Int.reduceNe, Int.reduceLT, Int.reduceLE, Int.reduceGT, Int.reduceGE]
  refine loopI_of (xloop (by kernel_rfl) (fun k fr M' => ∃ i : Nat, i ≤ l.length ∧ k = l.length - i ∧ fr 1 = .l (.int .i64 key) ∧ fr 7 = .l (.sl (l.map Pr.row)) ∧ fr 8 = .l (.int .i64 l.length) ∧ fr 9 = .l (.int .i64 i) ∧ M' = M ∧ place l key = pidx (fun p => decide (p.key = key)) (l.drop i) i) l.length ?_ ?_)
  · exact ⟨0, Nat.zero_le _, rfl, by simp -implicitDefEqProofs (maxSteps := 1000000) (disch := omega) only [↓xsP, ↓vc_seq, xsQ, xsT, xsR, xsD, ↓reduceIte, reduceCtorEq, eq_self, ne_eq, imp_self, forall_const, Nat.reduceEqDiff, Nat.reduceAdd, Nat.reduceSub, Nat.reduceMul, Nat.reduceLT, Nat.reduceLeDiff, Nat.reduceBEq, Nat.reduceDiv, Nat.reduceMod, Int.reduceToNat, Int.reduceNeg, Int.reduceAdd, Int.reduceSub, Int.reduceMul, Int.reduceEq, Int.reduceNe, Int.reduceLT, Int.reduceLE, Int.reduceGT, Int.reduceGE], by simp -implicitDefEqProofs (maxSteps := 1000000) (disch := omega) only [↓xsP, ↓vc_seq, xsQ, xsT, xsR, xsD, ↓reduceIte, reduceCtorEq, eq_self, ne_eq, imp_self, forall_const, Nat.reduceEqDiff, Nat.reduceAdd, Nat.reduceSub, Nat.reduceMul, Nat.reduceLT, Nat.reduceLeDiff, Nat.reduceBEq, Nat.reduceDiv, Nat.reduceMod, Int.reduceToNat, Int.reduceNeg, Int.reduceAdd, Int.reduceSub, Int.reduceMul, Int.reduceEq, Int.reduceNe, Int.reduceLT, Int.reduceLE, Int.reduceGT, Int.reduceGE], by simp -implicitDefEqProofs (maxSteps := 1000000) (disch := omega) only [↓xsP, ↓vc_seq, xsQ, xsT, xsR, xsD, ↓reduceIte, reduceCtorEq, eq_self, ne_eq, imp_self, forall_const, Nat.reduceEqDiff, Nat.reduceAdd, Nat.reduceSub, Nat.reduceMul, Nat.reduceLT, Nat.reduceLeDiff, Nat.reduceBEq, Nat.reduceDiv, Nat.reduceMod, Int.reduceToNat, Int.reduceNeg, Int.reduceAdd, Int.reduceSub, Int.reduceMul, Int.reduceEq, Int.reduceNe, Int.reduceLT, Int.reduceLE, Int.reduceGT, Int.reduceGE], by simp -implicitDefEqProofs (maxSteps := 1000000) (disch := omega) only [↓xsP, ↓vc_seq, xsQ, xsT, xsR, xsD, ↓reduceIte, reduceCtorEq, eq_self, ne_eq, imp_self, forall_const, Nat.reduceEqDiff, Nat.reduceAdd, Nat.reduceSub, Nat.reduceMul, Nat.reduceLT, Nat.reduceLeDiff, Nat.reduceBEq, Nat.reduceDiv, Nat.reduceMod, Int.reduceToNat, Int.reduceNeg, Int.reduceAdd, Int.reduceSub, Int.reduceMul, Int.reduceEq, Int.reduceNe, Int.reduceLT, Int.reduceLE, Int.reduceGT, Int.reduceGE, Int.cast_ofNat_Int], rfl, rfl⟩
  · rintro k fr M' ⟨i, hi, rfl, h1, h7, h8, h9, rfl, hinv⟩
    simp -implicitDefEqProofs (maxSteps := 1000000) (disch := omega) only [↓xsP, ↓vc_seq, xsQ, xsT, xsR, xsD, ↓reduceIte, reduceCtorEq, eq_self, ne_eq, imp_self, forall_const, Nat.reduceEqDiff, Nat.reduceAdd, Nat.reduceSub, Nat.reduceMul, Nat.reduceLT, Nat.reduceLeDiff, Nat.reduceBEq, Nat.reduceDiv, Nat.reduceMod, Int.reduceToNat, Int.reduceNeg, Int.reduceAdd, Int.reduceSub, Int.reduceMul, Int.reduceEq, Int.reduceNe, Int.reduceLT, Int.reduceLE, Int.reduceGT, Int.reduceGE, h1, h7, h8, h9]
    refine condI_prop (fun hlt => ?_) (fun hlt => ?_)
    · rw [hstep i (by omega), pidx] at hinv
      obtain ⟨q, hq⟩ : ∃ q, l.getD i default = q := ⟨_, rfl⟩
      rw [hq] at hinv
      simp -implicitDefEqProofs (maxSteps := 1000000) (disch := omega) only [↓xsP, ↓vc_seq, xsQ, xsT, xsR, xsD, ↓reduceIte, reduceCtorEq, eq_self, ne_eq, imp_self, forall_const, Nat.reduceEqDiff, Nat.reduceAdd, Nat.reduceSub, Nat.reduceMul, Nat.reduceLT, Nat.reduceLeDiff, Nat.reduceBEq, Nat.reduceDiv, Nat.reduceMod, Int.reduceToNat, Int.reduceNeg, Int.reduceAdd, Int.reduceSub, Int.reduceMul, Int.reduceEq, Int.reduceNe, Int.reduceLT, Int.reduceLE, Int.reduceGT, Int.reduceGE, h1, h7, h8, h9, hq]
      refine newI_intro fun p6 hp6 => ?_
      simp -implicitDefEqProofs (maxSteps := 1000000) (disch := omega) only [↓xsP, ↓vc_seq, xsQ, xsT, xsR, xsD, ↓reduceIte, reduceCtorEq, eq_self, ne_eq, imp_self, forall_const, Nat.reduceEqDiff, Nat.reduceAdd, Nat.reduceSub, Nat.reduceMul, Nat.reduceLT, Nat.reduceLeDiff, Nat.reduceBEq, Nat.reduceDiv, Nat.reduceMod, Int.reduceToNat, Int.reduceNeg, Int.reduceAdd, Int.reduceSub, Int.reduceMul, Int.reduceEq, Int.reduceNe, Int.reduceLT, Int.reduceLE, Int.reduceGT, Int.reduceGE, h1, h7, h8, h9, hq]
      refine condI_prop (fun hk => ?_) (fun hk => ?_)
      · rw [if_pos (by simpa using hk)] at hinv
        simp -implicitDefEqProofs (maxSteps := 1000000) (disch := omega) only [↓xsP, ↓vc_seq, xsQ, xsT, xsR, xsD, ↓reduceIte, reduceCtorEq, eq_self, ne_eq, imp_self, forall_const, Nat.reduceEqDiff, Nat.reduceAdd, Nat.reduceSub, Nat.reduceMul, Nat.reduceLT, Nat.reduceLeDiff, Nat.reduceBEq, Nat.reduceDiv, Nat.reduceMod, Int.reduceToNat, Int.reduceNeg, Int.reduceAdd, Int.reduceSub, Int.reduceMul, Int.reduceEq, Int.reduceNe, Int.reduceLT, Int.reduceLE, Int.reduceGT, Int.reduceGE, h1, h7, h8, h9, hq]
        exact fin_ok (le_new (Mem.le_refl _) hp6) ⟨by rw [hinv], rfl⟩
      · rw [if_neg (by simpa using hk)] at hinv
        simp -implicitDefEqProofs (maxSteps := 1000000) (disch := omega) only [↓xsP, ↓vc_seq, xsQ, xsT, xsR, xsD, ↓reduceIte, reduceCtorEq, eq_self, ne_eq, imp_self, forall_const, Nat.reduceEqDiff, Nat.reduceAdd, Nat.reduceSub, Nat.reduceMul, Nat.reduceLT, Nat.reduceLeDiff, Nat.reduceBEq, Nat.reduceDiv, Nat.reduceMod, Int.reduceToNat, Int.reduceNeg, Int.reduceAdd, Int.reduceSub, Int.reduceMul, Int.reduceEq, Int.reduceNe, Int.reduceLT, Int.reduceLE, Int.reduceGT, Int.reduceGE, h1, h7, h8, h9, hq]
        exact ⟨l.length - (i + 1), M', by omega, le_new (Mem.le_refl _) hp6, i + 1, by omega, rfl, rfl, rfl, hinv⟩
    · have hil : i = l.length := by omega
      subst hil
      rw [List.drop_length, pidx] at hinv
      simp -implicitDefEqProofs (maxSteps := 1000000) (disch := omega) only [↓xsP, ↓vc_seq, xsQ, xsT, xsR, xsD, ↓reduceIte, reduceCtorEq, eq_self, ne_eq, imp_self, forall_const, Nat.reduceEqDiff, Nat.reduceAdd, Nat.reduceSub, Nat.reduceMul, Nat.reduceLT, Nat.reduceLeDiff, Nat.reduceBEq, Nat.reduceDiv, Nat.reduceMod, Int.reduceToNat, Int.reduceNeg, Int.reduceAdd, Int.reduceSub, Int.reduceMul, Int.reduceEq, Int.reduceNe, Int.reduceLT, Int.reduceLE, Int.reduceGT, Int.reduceGE, h1, h7, h8, h9]
      exact fin_ok (Mem.le_refl _) ⟨by rw [hinv], rfl⟩

/-- With, step by step. -/
def wst (p : Pr) (s : List Pr × Bool) (x : Pr) : List Pr × Bool :=
  let s1 := if s.2 = false ∧ x.key ≥ p.key then (s.1 ++ [p], true) else s
  (if x.key ≠ p.key then s1.1 ++ [x] else s1.1, s1.2)
def wrun (p : Pr) (l : List Pr) : List Pr × Bool := l.foldl (wst p) ([], false)
def withR (l : List Pr) (p : Pr) : List Pr := if (wrun p l).2 then (wrun p l).1 else (wrun p l).1 ++ [p]
theorem wrun_take {p : Pr} {l : List Pr} {i : Nat} (hi : i < l.length) : wrun p (l.take (i + 1)) = wst p (wrun p (l.take i)) (l.getD i default) := by
  rw [take_snoc l hi, wrun, List.foldl_append]
  rfl
theorem wst_len (p : Pr) (s : List Pr × Bool) (x : Pr) : (wst p s x).1.length + (!(wst p s x).2).toNat ≤ s.1.length + (!s.2).toNat + 1 := by
  obtain ⟨o, d⟩ := s
  cases d <;> simp only [wst] <;> (repeat' split) <;> simp_all
theorem wrun_len (p : Pr) (l : List Pr) : (wrun p l).1.length + (!(wrun p l).2).toNat ≤ l.length + 1 := by
  have key : ∀ (l : List Pr) (s : List Pr × Bool), (l.foldl (wst p) s).1.length + (!(l.foldl (wst p) s).2).toNat ≤ s.1.length + (!s.2).toNat + l.length := by
    intro l
    induction l with
    | nil => intro s; simp
    | cons x r ih =>
      intro s
      have h1 := ih (wst p s x)
      have h2 := wst_len p s x
      simp only [List.foldl_cons, List.length_cons]
      omega
  have := key l ([], false)
  simp only [List.length_nil, Bool.not_false, Bool.toNat_true] at this
  rw [wrun]
  omega
theorem withR_spec (l : List Pr) (hl : l.length ≤ 1000000) (p : Pr) (M : Mem) :
    XCalls Go.Proofs.Tryd.prog 25 [.l (.sl (l.map Pr.row)), .agg p.row] M fun r M' => r = .l (.sl ((withR l p).map Pr.row)) ∧ M' = M := by
  refine xcalls_intro (rs := [.tmp 4]) Go.Proofs.Tryd.func25 rfl (by kernel_rfl) rfl rfl (by kernel_rfl) (by simp) ?_
  simp -implicitDefEqProofs (maxSteps := 1000000) (disch := omega) only [↓xsP, ↓vc_seq, xsQ, xsT, xsR, xsD, ↓reduceIte, reduceCtorEq, eq_self, ne_eq, imp_self, forall_const, Nat.reduceEqDiff, Nat.reduceAdd, Nat.reduceSub, Nat.reduceMul, Nat.reduceLT, Nat.reduceLeDiff, Nat.reduceBEq, Nat.reduceDiv, Nat.reduceMod, Int.reduceToNat, Int.reduceNeg, Int.reduceAdd, Int.reduceSub, Int.reduceMul, Int.reduceEq, Int.reduceNe, Int.reduceLT, Int.reduceLE, Int.reduceGT, Int.reduceGE]
  refine newI_intro fun p3 hp3 => ?_
  have hM3 := Mem.set_eq M p3 (.cells 32 [p.row] 0)
  have hMN := le_new (b := .cells 32 [p.row] 0) (Mem.le_refl M) hp3
  simp only [Pr.row] at hM3 hMN
  simp -implicitDefEqProofs (maxSteps := 1000000) (disch := omega) only [↓xsP, ↓vc_seq, xsQ, xsT, xsR, xsD, ↓reduceIte, reduceCtorEq, eq_self, ne_eq, imp_self, forall_const, Nat.reduceEqDiff, Nat.reduceAdd, Nat.reduceSub, Nat.reduceMul, Nat.reduceLT, Nat.reduceLeDiff, Nat.reduceBEq, Nat.reduceDiv, Nat.reduceMod, Int.reduceToNat, Int.reduceNeg, Int.reduceAdd, Int.reduceSub, Int.reduceMul, Int.reduceEq, Int.reduceNe, Int.reduceLT, Int.reduceLE, Int.reduceGT, Int.reduceGE]
  generalize M.set p3 _ = N at hM3 hMN ⊢
  refine loopI_of (xloop (by kernel_rfl) (fun k fr M' => ∃ i : Nat, i ≤ l.length ∧ k = l.length - i ∧ fr 3 = .l (.ptr p3 0 0) ∧ fr 6 = .l (.bool (wrun p (l.take i)).2) ∧ fr 9 = .l (.sl (l.map Pr.row)) ∧ fr 10 = .l (.int .i64 l.length) ∧ fr 11 = .l (.int .i64 i) ∧ OutP N (fr 5) M' (wrun p (l.take i)).1) l.length ?_ ?_)
  · refine ⟨0, Nat.zero_le _, rfl, by simp -implicitDefEqProofs (maxSteps := 1000000) (disch := omega) only [↓xsP, ↓vc_seq, xsQ, xsT, xsR, xsD, ↓reduceIte, reduceCtorEq, eq_self, ne_eq, imp_self, forall_const, Nat.reduceEqDiff, Nat.reduceAdd, Nat.reduceSub, Nat.reduceMul, Nat.reduceLT, Nat.reduceLeDiff, Nat.reduceBEq, Nat.reduceDiv, Nat.reduceMod, Int.reduceToNat, Int.reduceNeg, Int.reduceAdd, Int.reduceSub, Int.reduceMul, Int.reduceEq, Int.reduceNe, Int.reduceLT, Int.reduceLE, Int.reduceGT, Int.reduceGE], by simp -implicitDefEqProofs (maxSteps := 1000000) (disch := omega) only [↓xsP, ↓vc_seq, xsQ, xsT, xsR, xsD, ↓reduceIte, reduceCtorEq, eq_self, ne_eq, imp_self, forall_const, Nat.reduceEqDiff, Nat.reduceAdd, Nat.reduceSub, Nat.reduceMul, Nat.reduceLT, Nat.reduceLeDiff, Nat.reduceBEq, Nat.reduceDiv, Nat.reduceMod, Int.reduceToNat, Int.reduceNeg, Int.reduceAdd, Int.reduceSub, Int.reduceMul, Int.reduceEq, Int.reduceNe, Int.reduceLT, Int.reduceLE, Int.reduceGT, Int.reduceGE]; rfl, by simp -implicitDefEqProofs (maxSteps := 1000000) (disch := omega) only [↓xsP, ↓vc_seq, xsQ, xsT, xsR, xsD, ↓reduceIte, reduceCtorEq, eq_self, ne_eq, imp_self, forall_const, Nat.reduceEqDiff, Nat.reduceAdd, Nat.reduceSub, Nat.reduceMul, Nat.reduceLT, Nat.reduceLeDiff, Nat.reduceBEq, Nat.reduceDiv, Nat.reduceMod, Int.reduceToNat, Int.reduceNeg, Int.reduceAdd, Int.reduceSub, Int.reduceMul, Int.reduceEq, Int.reduceNe, Int.reduceLT, Int.reduceLE, Int.reduceGT, Int.reduceGE], by simp -implicitDefEqProofs (maxSteps := 1000000) (disch := omega) only [↓xsP, ↓vc_seq, xsQ, xsT, xsR, xsD, ↓reduceIte, reduceCtorEq, eq_self, ne_eq, imp_self, forall_const, Nat.reduceEqDiff, Nat.reduceAdd, Nat.reduceSub, Nat.reduceMul, Nat.reduceLT, Nat.reduceLeDiff, Nat.reduceBEq, Nat.reduceDiv, Nat.reduceMod, Int.reduceToNat, Int.reduceNeg, Int.reduceAdd, Int.reduceSub, Int.reduceMul, Int.reduceEq, Int.reduceNe, Int.reduceLT, Int.reduceLE, Int.reduceGT, Int.reduceGE], by simp -implicitDefEqProofs (maxSteps := 1000000) (disch := omega) only [↓xsP, ↓vc_seq, xsQ, xsT, xsR, xsD, ↓reduceIte, reduceCtorEq, eq_self, ne_eq, imp_self, forall_const, Nat.reduceEqDiff, Nat.reduceAdd, Nat.reduceSub, Nat.reduceMul, Nat.reduceLT, Nat.reduceLeDiff, Nat.reduceBEq, Nat.reduceDiv, Nat.reduceMod, Int.reduceToNat, Int.reduceNeg, Int.reduceAdd, Int.reduceSub, Int.reduceMul, Int.reduceEq, Int.reduceNe, Int.reduceLT, Int.reduceLE, Int.reduceGT, Int.reduceGE, Int.cast_ofNat_Int], ?_⟩
    simp -implicitDefEqProofs (maxSteps := 1000000) (disch := omega) only [↓xsP, ↓vc_seq, xsQ, xsT, xsR, xsD, ↓reduceIte, reduceCtorEq, eq_self, ne_eq, imp_self, forall_const, Nat.reduceEqDiff, Nat.reduceAdd, Nat.reduceSub, Nat.reduceMul, Nat.reduceLT, Nat.reduceLeDiff, Nat.reduceBEq, Nat.reduceDiv, Nat.reduceMod, Int.reduceToNat, Int.reduceNeg, Int.reduceAdd, Int.reduceSub, Int.reduceMul, Int.reduceEq, Int.reduceNe, Int.reduceLT, Int.reduceLE, Int.reduceGT, Int.reduceGE]
    exact OutP.nil N
  · rintro k fr M' ⟨i, hi, rfl, h3, h6, h9, h10, h11, hO⟩
    obtain ⟨s5, h5⟩ := hO.val
    rw [h5] at hO
    have hM3' := hO.base _ _ hM3
    simp -implicitDefEqProofs (maxSteps := 1000000) (disch := omega) only [↓xsP, ↓vc_seq, xsQ, xsT, xsR, xsD, ↓reduceIte, reduceCtorEq, eq_self, ne_eq, imp_self, forall_const, Nat.reduceEqDiff, Nat.reduceAdd, Nat.reduceSub, Nat.reduceMul, Nat.reduceLT, Nat.reduceLeDiff, Nat.reduceBEq, Nat.reduceDiv, Nat.reduceMod, Int.reduceToNat, Int.reduceNeg, Int.reduceAdd, Int.reduceSub, Int.reduceMul, Int.reduceEq, Int.reduceNe, Int.reduceLT, Int.reduceLE, Int.reduceGT, Int.reduceGE, h5, h3, h6, h9, h10, h11]
    refine condI_prop (fun hlt => ?_) (fun hlt => ?_)
    · have hi' : i < l.length := by omega
      have hwt := wrun_take (p := p) hi'
      have hwl := wrun_len p (l.take i)
      rw [List.length_take] at hwl
      obtain ⟨q, hq⟩ : ∃ q, l.getD i default = q := ⟨_, rfl⟩
      rw [hq] at hwt
      generalize wrun p (l.take i) = s at hwt hwl hO h6
      obtain ⟨o, d⟩ := s
      simp only at hwl hO h6
      simp -implicitDefEqProofs (maxSteps := 1000000) (disch := omega) only [↓xsP, ↓vc_seq, xsQ, xsT, xsR, xsD, ↓reduceIte, reduceCtorEq, eq_self, ne_eq, imp_self, forall_const, Nat.reduceEqDiff, Nat.reduceAdd, Nat.reduceSub, Nat.reduceMul, Nat.reduceLT, Nat.reduceLeDiff, Nat.reduceBEq, Nat.reduceDiv, Nat.reduceMod, Int.reduceToNat, Int.reduceNeg, Int.reduceAdd, Int.reduceSub, Int.reduceMul, Int.reduceEq, Int.reduceNe, Int.reduceLT, Int.reduceLE, Int.reduceGT, Int.reduceGE, h5, h3, h6, h9, h10, h11, hq]
      refine newI_intro fun p8 hp8 => ?_
      have h38 := lt_of_bnd hp8 hM3'
      simp -implicitDefEqProofs (maxSteps := 1000000) (disch := omega) only [↓xsP, ↓vc_seq, xsQ, xsT, xsR, xsD, ↓reduceIte, reduceCtorEq, eq_self, ne_eq, imp_self, forall_const, Nat.reduceEqDiff, Nat.reduceAdd, Nat.reduceSub, Nat.reduceMul, Nat.reduceLT, Nat.reduceLeDiff, Nat.reduceBEq, Nat.reduceDiv, Nat.reduceMod, Int.reduceToNat, Int.reduceNeg, Int.reduceAdd, Int.reduceSub, Int.reduceMul, Int.reduceEq, Int.reduceNe, Int.reduceLT, Int.reduceLE, Int.reduceGT, Int.reduceGE, h5, h3, h6, h9, h10, h11, hq, hM3']
      have hle8 : ∀ b, M'.le (M'.set p8 b) := fun b => le_new (Mem.le_refl _) hp8
      have hn8 : M' p8 = none := hp8 _ (Nat.le_refl _)
      -- the second half of a round
      cases d with
      | true =>
        have hw1 : wst p (o, true) q = (if q.key ≠ p.key then o ++ [q] else o, true) := by simp [wst]
        rw [hw1] at hwt
        simp -implicitDefEqProofs (maxSteps := 1000000) (disch := omega) only [↓xsP, ↓vc_seq, xsQ, xsT, xsR, xsD, ↓reduceIte, reduceCtorEq, eq_self, ne_eq, imp_self, forall_const, Nat.reduceEqDiff, Nat.reduceAdd, Nat.reduceSub, Nat.reduceMul, Nat.reduceLT, Nat.reduceLeDiff, Nat.reduceBEq, Nat.reduceDiv, Nat.reduceMod, Int.reduceToNat, Int.reduceNeg, Int.reduceAdd, Int.reduceSub, Int.reduceMul, Int.reduceEq, Int.reduceNe, Int.reduceLT, Int.reduceLE, Int.reduceGT, Int.reduceGE, h5, h3, h6, h9, h10, h11, hq, hM3']
        refine condI_prop (fun hk => ?_) (fun hk => ?_)
        · rw [if_pos hk] at hwt
          simp -implicitDefEqProofs (maxSteps := 1000000) (disch := omega) only [↓xsP, ↓vc_seq, xsQ, xsT, xsR, xsD, ↓reduceIte, reduceCtorEq, eq_self, ne_eq, imp_self, forall_const, Nat.reduceEqDiff, Nat.reduceAdd, Nat.reduceSub, Nat.reduceMul, Nat.reduceLT, Nat.reduceLeDiff, Nat.reduceBEq, Nat.reduceDiv, Nat.reduceMod, Int.reduceToNat, Int.reduceNeg, Int.reduceAdd, Int.reduceSub, Int.reduceMul, Int.reduceEq, Int.reduceNe, Int.reduceLT, Int.reduceLE, Int.reduceGT, Int.reduceGE, h5, h3, h6, h9, h10, h11, hq, hM3']
          refine newI_intro fun pb hpb => ?_
          simp -implicitDefEqProofs (maxSteps := 1000000) (disch := omega) only [↓xsP, ↓vc_seq, xsQ, xsT, xsR, xsD, ↓reduceIte, reduceCtorEq, eq_self, ne_eq, imp_self, forall_const, Nat.reduceEqDiff, Nat.reduceAdd, Nat.reduceSub, Nat.reduceMul, Nat.reduceLT, Nat.reduceLeDiff, Nat.reduceBEq, Nat.reduceDiv, Nat.reduceMod, Int.reduceToNat, Int.reduceNeg, Int.reduceAdd, Int.reduceSub, Int.reduceMul, Int.reduceEq, Int.reduceNe, Int.reduceLT, Int.reduceLE, Int.reduceGT, Int.reduceGE, h5, h3, h6, h9, h10, h11, hq, hM3']
          refine app_out (p := q) hO (hle8 _) hpb (by simp at hwl; omega) fun v' N' M2 hO2 hle2 _ => ?_
          obtain ⟨s5', rfl⟩ := hO2.val
          simp -implicitDefEqProofs (maxSteps := 1000000) (disch := omega) only [↓xsP, ↓vc_seq, xsQ, xsT, xsR, xsD, ↓reduceIte, reduceCtorEq, eq_self, ne_eq, imp_self, forall_const, Nat.reduceEqDiff, Nat.reduceAdd, Nat.reduceSub, Nat.reduceMul, Nat.reduceLT, Nat.reduceLeDiff, Nat.reduceBEq, Nat.reduceDiv, Nat.reduceMod, Int.reduceToNat, Int.reduceNeg, Int.reduceAdd, Int.reduceSub, Int.reduceMul, Int.reduceEq, Int.reduceNe, Int.reduceLT, Int.reduceLE, Int.reduceGT, Int.reduceGE, h5, h3, h6, h9, h10, h11, hq]
          exact ⟨l.length - (i + 1), M2, by omega, hle2, i + 1, by omega, rfl, by rw [hwt], rfl, by rw [hwt]; exact hO2⟩
        · rw [if_neg hk] at hwt
          simp -implicitDefEqProofs (maxSteps := 1000000) (disch := omega) only [↓xsP, ↓vc_seq, xsQ, xsT, xsR, xsD, ↓reduceIte, reduceCtorEq, eq_self, ne_eq, imp_self, forall_const, Nat.reduceEqDiff, Nat.reduceAdd, Nat.reduceSub, Nat.reduceMul, Nat.reduceLT, Nat.reduceLeDiff, Nat.reduceBEq, Nat.reduceDiv, Nat.reduceMod, Int.reduceToNat, Int.reduceNeg, Int.reduceAdd, Int.reduceSub, Int.reduceMul, Int.reduceEq, Int.reduceNe, Int.reduceLT, Int.reduceLE, Int.reduceGT, Int.reduceGE, h5, h3, h6, h9, h10, h11, hq, hM3']
          exact ⟨l.length - (i + 1), M', by omega, hle8 _, i + 1, by omega, rfl, by rw [hwt], rfl, by rw [hwt]; exact hO⟩
      | false =>
        simp -implicitDefEqProofs (maxSteps := 1000000) (disch := omega) only [↓xsP, ↓vc_seq, xsQ, xsT, xsR, xsD, ↓reduceIte, reduceCtorEq, eq_self, ne_eq, imp_self, forall_const, Nat.reduceEqDiff, Nat.reduceAdd, Nat.reduceSub, Nat.reduceMul, Nat.reduceLT, Nat.reduceLeDiff, Nat.reduceBEq, Nat.reduceDiv, Nat.reduceMod, Int.reduceToNat, Int.reduceNeg, Int.reduceAdd, Int.reduceSub, Int.reduceMul, Int.reduceEq, Int.reduceNe, Int.reduceLT, Int.reduceLE, Int.reduceGT, Int.reduceGE, h5, h3, h6, h9, h10, h11, hq, hM3']
        refine condI_prop (fun hge => ?_) (fun hge => ?_)
        · have hw1 : wst p (o, false) q = (if q.key ≠ p.key then o ++ [p] ++ [q] else o ++ [p], true) := by simp [wst, hge]
          rw [hw1] at hwt
          simp -implicitDefEqProofs (maxSteps := 1000000) (disch := omega) only [↓xsP, ↓vc_seq, xsQ, xsT, xsR, xsD, ↓reduceIte, reduceCtorEq, eq_self, ne_eq, imp_self, forall_const, Nat.reduceEqDiff, Nat.reduceAdd, Nat.reduceSub, Nat.reduceMul, Nat.reduceLT, Nat.reduceLeDiff, Nat.reduceBEq, Nat.reduceDiv, Nat.reduceMod, Int.reduceToNat, Int.reduceNeg, Int.reduceAdd, Int.reduceSub, Int.reduceMul, Int.reduceEq, Int.reduceNe, Int.reduceLT, Int.reduceLE, Int.reduceGT, Int.reduceGE, h5, h3, h6, h9, h10, h11, hq, hM3']
          refine newI_intro fun pb hpb => ?_
          simp -implicitDefEqProofs (maxSteps := 1000000) (disch := omega) only [↓xsP, ↓vc_seq, xsQ, xsT, xsR, xsD, ↓reduceIte, reduceCtorEq, eq_self, ne_eq, imp_self, forall_const, Nat.reduceEqDiff, Nat.reduceAdd, Nat.reduceSub, Nat.reduceMul, Nat.reduceLT, Nat.reduceLeDiff, Nat.reduceBEq, Nat.reduceDiv, Nat.reduceMod, Int.reduceToNat, Int.reduceNeg, Int.reduceAdd, Int.reduceSub, Int.reduceMul, Int.reduceEq, Int.reduceNe, Int.reduceLT, Int.reduceLE, Int.reduceGT, Int.reduceGE, h5, h3, h6, h9, h10, h11, hq, hM3']
          refine app_out (p := p) hO (hle8 _) hpb (by simp at hwl; omega) fun v' N' M2 hO2 hle2 hkeep => ?_
          obtain ⟨s5', h5'⟩ := hO2.val
          subst h5'
          have hN8 := hkeep _ _ (Mem.set_eq M' p8 _) hn8
          have hN3 := hle2 _ _ (hO2.base _ _ hM3)
          simp -implicitDefEqProofs (maxSteps := 1000000) (disch := omega) only [↓xsP, ↓vc_seq, xsQ, xsT, xsR, xsD, ↓reduceIte, reduceCtorEq, eq_self, ne_eq, imp_self, forall_const, Nat.reduceEqDiff, Nat.reduceAdd, Nat.reduceSub, Nat.reduceMul, Nat.reduceLT, Nat.reduceLeDiff, Nat.reduceBEq, Nat.reduceDiv, Nat.reduceMod, Int.reduceToNat, Int.reduceNeg, Int.reduceAdd, Int.reduceSub, Int.reduceMul, Int.reduceEq, Int.reduceNe, Int.reduceLT, Int.reduceLE, Int.reduceGT, Int.reduceGE, h5, h3, h6, h9, h10, h11, hq, hN8, hN3]
          refine condI_prop (fun hk => ?_) (fun hk => ?_)
          · rw [if_pos hk] at hwt
            simp -implicitDefEqProofs (maxSteps := 1000000) (disch := omega) only [↓xsP, ↓vc_seq, xsQ, xsT, xsR, xsD, ↓reduceIte, reduceCtorEq, eq_self, ne_eq, imp_self, forall_const, Nat.reduceEqDiff, Nat.reduceAdd, Nat.reduceSub, Nat.reduceMul, Nat.reduceLT, Nat.reduceLeDiff, Nat.reduceBEq, Nat.reduceDiv, Nat.reduceMod, Int.reduceToNat, Int.reduceNeg, Int.reduceAdd, Int.reduceSub, Int.reduceMul, Int.reduceEq, Int.reduceNe, Int.reduceLT, Int.reduceLE, Int.reduceGT, Int.reduceGE, h5, h3, h6, h9, h10, h11, hq, hN8, hN3]
            refine newI_intro fun pb2 hpb2 => ?_
            simp -implicitDefEqProofs (maxSteps := 1000000) (disch := omega) only [↓xsP, ↓vc_seq, xsQ, xsT, xsR, xsD, ↓reduceIte, reduceCtorEq, eq_self, ne_eq, imp_self, forall_const, Nat.reduceEqDiff, Nat.reduceAdd, Nat.reduceSub, Nat.reduceMul, Nat.reduceLT, Nat.reduceLeDiff, Nat.reduceBEq, Nat.reduceDiv, Nat.reduceMod, Int.reduceToNat, Int.reduceNeg, Int.reduceAdd, Int.reduceSub, Int.reduceMul, Int.reduceEq, Int.reduceNe, Int.reduceLT, Int.reduceLE, Int.reduceGT, Int.reduceGE, h5, h3, h6, h9, h10, h11, hq, hN8, hN3]
            refine app_out (p := q) hO2 hle2 hpb2 (by simp at hwl ⊢; omega) fun v2 N2 M3 hO3 hle3 _ => ?_
            obtain ⟨s6', rfl⟩ := hO3.val
            simp -implicitDefEqProofs (maxSteps := 1000000) (disch := omega) only [↓xsP, ↓vc_seq, xsQ, xsT, xsR, xsD, ↓reduceIte, reduceCtorEq, eq_self, ne_eq, imp_self, forall_const, Nat.reduceEqDiff, Nat.reduceAdd, Nat.reduceSub, Nat.reduceMul, Nat.reduceLT, Nat.reduceLeDiff, Nat.reduceBEq, Nat.reduceDiv, Nat.reduceMod, Int.reduceToNat, Int.reduceNeg, Int.reduceAdd, Int.reduceSub, Int.reduceMul, Int.reduceEq, Int.reduceNe, Int.reduceLT, Int.reduceLE, Int.reduceGT, Int.reduceGE, h5, h3, h6, h9, h10, h11, hq]
            exact ⟨l.length - (i + 1), M3, by omega, hle3, i + 1, by omega, rfl, by rw [hwt], rfl, by rw [hwt]; exact hO3⟩
          · rw [if_neg hk] at hwt
            simp -implicitDefEqProofs (maxSteps := 1000000) (disch := omega) only [↓xsP, ↓vc_seq, xsQ, xsT, xsR, xsD, ↓reduceIte, reduceCtorEq, eq_self, ne_eq, imp_self, forall_const, Nat.reduceEqDiff, Nat.reduceAdd, Nat.reduceSub, Nat.reduceMul, Nat.reduceLT, Nat.reduceLeDiff, Nat.reduceBEq, Nat.reduceDiv, Nat.reduceMod, Int.reduceToNat, Int.reduceNeg, Int.reduceAdd, Int.reduceSub, Int.reduceMul, Int.reduceEq, Int.reduceNe, Int.reduceLT, Int.reduceLE, Int.reduceGT, Int.reduceGE, h5, h3, h6, h9, h10, h11, hq, hN8, hN3]
            exact ⟨l.length - (i + 1), M2, by omega, hle2, i + 1, by omega, rfl, by rw [hwt], rfl, by rw [hwt]; exact hO2⟩
        · have hk : q.key ≠ p.key := by omega
          have hw1 : wst p (o, false) q = (o ++ [q], false) := by
            simp only [wst]
            rw [if_neg (show ¬ (True ∧ q.key ≥ p.key) from fun h => hge h.2), if_pos hk]
          rw [hw1] at hwt
          have hk' : (¬ q.key = p.key) = True := eq_true hk
          simp -implicitDefEqProofs (maxSteps := 1000000) (disch := omega) only [↓xsP, ↓vc_seq, xsQ, xsT, xsR, xsD, ↓reduceIte, reduceCtorEq, eq_self, ne_eq, imp_self, forall_const, Nat.reduceEqDiff, Nat.reduceAdd, Nat.reduceSub, Nat.reduceMul, Nat.reduceLT, Nat.reduceLeDiff, Nat.reduceBEq, Nat.reduceDiv, Nat.reduceMod, Int.reduceToNat, Int.reduceNeg, Int.reduceAdd, Int.reduceSub, Int.reduceMul, Int.reduceEq, Int.reduceNe, Int.reduceLT, Int.reduceLE, Int.reduceGT, Int.reduceGE, h5, h3, h6, h9, h10, h11, hq, hM3', hk']
          refine newI_intro fun pb hpb => ?_
          simp -implicitDefEqProofs (maxSteps := 1000000) (disch := omega) only [↓xsP, ↓vc_seq, xsQ, xsT, xsR, xsD, ↓reduceIte, reduceCtorEq, eq_self, ne_eq, imp_self, forall_const, Nat.reduceEqDiff, Nat.reduceAdd, Nat.reduceSub, Nat.reduceMul, Nat.reduceLT, Nat.reduceLeDiff, Nat.reduceBEq, Nat.reduceDiv, Nat.reduceMod, Int.reduceToNat, Int.reduceNeg, Int.reduceAdd, Int.reduceSub, Int.reduceMul, Int.reduceEq, Int.reduceNe, Int.reduceLT, Int.reduceLE, Int.reduceGT, Int.reduceGE, h5, h3, h6, h9, h10, h11, hq, hM3']
          refine app_out (p := q) hO (hle8 _) hpb (by simp at hwl; omega) fun v' N' M2 hO2 hle2 _ => ?_
          obtain ⟨s5', rfl⟩ := hO2.val
          simp -implicitDefEqProofs (maxSteps := 1000000) (disch := omega) only [↓xsP, ↓vc_seq, xsQ, xsT, xsR, xsD, ↓reduceIte, reduceCtorEq, eq_self, ne_eq, imp_self, forall_const, Nat.reduceEqDiff, Nat.reduceAdd, Nat.reduceSub, Nat.reduceMul, Nat.reduceLT, Nat.reduceLeDiff, Nat.reduceBEq, Nat.reduceDiv, Nat.reduceMod, Int.reduceToNat, Int.reduceNeg, Int.reduceAdd, Int.reduceSub, Int.reduceMul, Int.reduceEq, Int.reduceNe, Int.reduceLT, Int.reduceLE, Int.reduceGT, Int.reduceGE, h5, h3, h6, h9, h10, h11, hq]
          exact ⟨l.length - (i + 1), M2, by omega, hle2, i + 1, by omega, rfl, by rw [hwt], rfl, by rw [hwt]; exact hO2⟩
    · have hi' : i = l.length := by omega
      subst hi'
      rw [List.take_length] at hO h6
      have hwl := wrun_len p l
      rw [withR]
      generalize wrun p l = s at hwl hO h6 ⊢
      obtain ⟨o, d⟩ := s
      simp only at hwl hO h6 ⊢
      cases d with
      | true =>
        simp -implicitDefEqProofs (maxSteps := 1000000) (disch := omega) only [↓xsP, ↓vc_seq, xsQ, xsT, xsR, xsD, ↓reduceIte, reduceCtorEq, eq_self, ne_eq, imp_self, forall_const, Nat.reduceEqDiff, Nat.reduceAdd, Nat.reduceSub, Nat.reduceMul, Nat.reduceLT, Nat.reduceLeDiff, Nat.reduceBEq, Nat.reduceDiv, Nat.reduceMod, Int.reduceToNat, Int.reduceNeg, Int.reduceAdd, Int.reduceSub, Int.reduceMul, Int.reduceEq, Int.reduceNe, Int.reduceLT, Int.reduceLE, Int.reduceGT, Int.reduceGE, h5, h3, h6, h9, h10, h11, hM3']
        exact fin_out hO (Mem.le_refl _) hMN ⟨rfl, rfl⟩
      | false =>
        simp -implicitDefEqProofs (maxSteps := 1000000) (disch := omega) only [↓xsP, ↓vc_seq, xsQ, xsT, xsR, xsD, ↓reduceIte, reduceCtorEq, eq_self, ne_eq, imp_self, forall_const, Nat.reduceEqDiff, Nat.reduceAdd, Nat.reduceSub, Nat.reduceMul, Nat.reduceLT, Nat.reduceLeDiff, Nat.reduceBEq, Nat.reduceDiv, Nat.reduceMod, Int.reduceToNat, Int.reduceNeg, Int.reduceAdd, Int.reduceSub, Int.reduceMul, Int.reduceEq, Int.reduceNe, Int.reduceLT, Int.reduceLE, Int.reduceGT, Int.reduceGE, h5, h3, h6, h9, h10, h11, hM3']
        refine newI_intro fun pb hpb => ?_
        simp -implicitDefEqProofs (maxSteps := 1000000) (disch := omega) only [↓xsP, ↓vc_seq, xsQ, xsT, xsR, xsD, ↓reduceIte, reduceCtorEq, eq_self, ne_eq, imp_self, forall_const, Nat.reduceEqDiff, Nat.reduceAdd, Nat.reduceSub, Nat.reduceMul, Nat.reduceLT, Nat.reduceLeDiff, Nat.reduceBEq, Nat.reduceDiv, Nat.reduceMod, Int.reduceToNat, Int.reduceNeg, Int.reduceAdd, Int.reduceSub, Int.reduceMul, Int.reduceEq, Int.reduceNe, Int.reduceLT, Int.reduceLE, Int.reduceGT, Int.reduceGE, h5, h3, h6, h9, h10, h11, hM3']
        refine app_out (p := p) hO (Mem.le_refl _) hpb (by simp at hwl; omega) fun v' N' M2 hO2 hle2 _ => ?_
        obtain ⟨s5', rfl⟩ := hO2.val
        simp -implicitDefEqProofs (maxSteps := 1000000) (disch := omega) only [↓xsP, ↓vc_seq, xsQ, xsT, xsR, xsD, ↓reduceIte, reduceCtorEq, eq_self, ne_eq, imp_self, forall_const, Nat.reduceEqDiff, Nat.reduceAdd, Nat.reduceSub, Nat.reduceMul, Nat.reduceLT, Nat.reduceLeDiff, Nat.reduceBEq, Nat.reduceDiv, Nat.reduceMod, Int.reduceToNat, Int.reduceNeg, Int.reduceAdd, Int.reduceSub, Int.reduceMul, Int.reduceEq, Int.reduceNe, Int.reduceLT, Int.reduceLE, Int.reduceGT, Int.reduceGE, h5, h3, h6, h9, h10, h11]
        exact fin_out hO2 hle2 hMN ⟨rfl, rfl⟩
end Go.X
set_option linter.unusedVariables false
set_option linter.unusedSimpArgs false
set_option maxHeartbeats 20000000
set_option maxRecDepth 100000
namespace Go.X
open Go.Proofs.Tryd (prog)

theorem wfold_lt {p : Pr} : ∀ (A o : List Pr), (∀ a ∈ A, a.key < p.key) → A.foldl (wst p) (o, false) = (o ++ A, false)
  | [], o, _ => by simp
  | x :: r, o, h => by
    have hx := h x (by simp)
    have e : wst p (o, false) x = (o ++ [x], false) := by
      simp only [wst]
      rw [if_neg (show ¬ (True ∧ x.key ≥ p.key) from fun h => by omega), if_pos (by omega)]
    rw [List.foldl_cons, e, wfold_lt r _ fun a ha => h a (by simp [ha])]
    simp
theorem wfold_gt {p : Pr} : ∀ (C o : List Pr), (∀ c ∈ C, p.key < c.key) → C.foldl (wst p) (o, true) = (o ++ C, true)
  | [], o, _ => by simp
  | x :: r, o, h => by
    have hx := h x (by simp)
    have e : wst p (o, true) x = (o ++ [x], true) := by
      have : x.key ≠ p.key := by omega
      simp [wst, this]
    rw [List.foldl_cons, e, wfold_gt r _ fun a ha => h a (by simp [ha])]
    simp
theorem withR_eq {l : List Pr} (h : Asc l) (p : Pr) : withR l p = withL l p := by
  rcases forms p.key l h with ⟨A, C, hO⟩ | ⟨A, x, C, hI⟩
  · have hw : withL l p = A ++ p :: C := hO.with p.val
    rw [hw]
    obtain ⟨rfl, h1, h2⟩ := hO
    rw [withR, wrun, List.foldl_append, wfold_lt A _ h1]
    cases C with
    | nil => simp
    | cons c r =>
      have hc := h2 c (by simp)
      have e : wst p ([] ++ A, false) c = (A ++ [p] ++ [c], true) := by
        have h1 : c.key ≠ p.key := by omega
        have h2 : p.key ≤ c.key := by omega
        simp [wst, h1, h2]
      rw [List.foldl_cons, e, wfold_gt r _ fun a ha => h2 a (by simp [ha])]
      simp
  · have hw : withL l p = A ++ p :: C := hI.with p.val
    rw [hw]
    obtain ⟨rfl, hk, h1, h2⟩ := hI
    rw [withR, wrun, List.foldl_append, wfold_lt A _ h1]
    have e : wst p ([] ++ A, false) x = (A ++ [p], true) := by
      have h2 : p.key ≤ x.key := by omega
      simp [wst, hk, h2]
    rw [List.foldl_cons, e, wfold_gt C _ h2]
    simp
theorem withoutR_eq {l : List Pr} (h : Asc l) {op : Opn} (hk : op.kind = 3) : (l.filter fun p => decide (p.key ≠ op.key)) = oneL l op := by
  rcases one_forms op h (by omega) with ⟨A, C, hO, hc⟩ | ⟨A, x, C, hI, hc⟩
  · have e : oneL l op = l := by
      rcases hc with ⟨h', _⟩ | ⟨_, h'⟩
      · omega
      · exact h'
    rw [e]
    obtain ⟨rfl, h1, h2⟩ := hO
    refine List.filter_eq_self.2 fun a ha => ?_
    rcases List.mem_append.1 ha with h' | h'
    · have := h1 a h'; simp; omega
    · have := h2 a h'; simp; omega
  · have e : oneL l op = A ++ C := by
      rcases hc with ⟨h', _⟩ | ⟨_, h'⟩ | ⟨h', _⟩
      · omega
      · exact h'
      · omega
    rw [e]
    obtain ⟨rfl, hx, h1, h2⟩ := hI
    have f1 : A.filter (fun p => decide (p.key ≠ op.key)) = A := List.filter_eq_self.2 fun a ha => by have := h1 a ha; simp; omega
    have f2 : C.filter (fun p => decide (p.key ≠ op.key)) = C := List.filter_eq_self.2 fun a ha => by have := h2 a ha; simp; omega
    rw [List.filter_append, List.filter_cons, if_neg (by simp [hx]), f1, f2]

theorem app_clone {N : Mem} {l : List Pr} (hl : l.length ≤ 2000002) {K : AV → Mem → Prop} (hc : ∀ v M', OutP N v M' l → K v M') : @appI Go.Proofs.Tryd.prog N 22 22 (.l .nils) (.l (.sl (l.map Pr.row))) ⟨K⟩ := by
  refine app_nils _ _ _ _ 32 _ _ ti_22 rfl ti_32 (by kernel_rfl) (by decide) _ (l.map Pr.row) ?_ ?_ ?_ ?_ ?_
  · simp -implicitDefEqProofs (maxSteps := 1000000) (disch := omega) only [↓xsP, ↓vc_seq, xsQ, xsT, xsR, xsD, ↓reduceIte, reduceCtorEq, eq_self, ne_eq, imp_self, forall_const, Nat.reduceEqDiff, Nat.reduceAdd, Nat.reduceSub, Nat.reduceMul, Nat.reduceLT, Nat.reduceLeDiff, Nat.reduceBEq, Nat.reduceDiv, Nat.reduceMod, Int.reduceToNat, Int.reduceNeg, Int.reduceAdd, Int.reduceSub, Int.reduceMul, Int.reduceEq, Int.reduceNe, Int.reduceLT, Int.reduceLE, Int.reduceGT, Int.reduceGE]
    rw [if_pos (rows2 l)]
  · exact Nat.le_trans (Nat.mul_le_mul_right _ (show (l.map Pr.row).length ≤ 2000002 by simpa using hl)) (by decide)
  · simp; omega
  · intro h
    have : l = [] := by simpa using h
    exact hc _ _ (.inl ⟨this, rfl, rfl⟩)
  · intro _ id hid
    exact hc _ _ (.inr ⟨id, hid, by simp, rfl⟩)
/-- A slice that is kept, or is being made. -/
def OutQ (M : Mem) (s : Lf) (M' : Mem) (rows : List Pr) : Prop := s = .sl (rows.map Pr.row) ∨ OutP M (.l s) M' rows
theorem finI_outQ {M M' N : Mem} {s : Lf} {rows : List Pr} {a b c d e f : Lf} {K : AV → Mem → Prop} (p5 : Nat) (h : OutQ M s M' rows) (hle : ∀ k bk, k ≠ p5 → M' k = some bk → N k = some bk) {b5 : Blk} (h5 : M p5 = some b5) {M0 : Mem} (h0 : M0.le M) (h05 : M0 p5 = none) (hM : M.le M')
    (hf : ∀ id r, [a, b, c, d, e, f].map (frzL id r) = [a, b, c, d, e, f]) (hK : K (.tup [.l (.sl (rows.map Pr.row)), .agg ([a, b, c, d, e, f].map wkL)]) M0) : @finI Go.Proofs.Tryd.prog (.tup [.l s, .agg [a, b, c, d, e, f]]) N ⟨K⟩ := by
  refine finI_of ?_
  have hMN : M0.le N := fun k bk hk => hle _ _ (fun e => by subst e; rw [h05] at hk; cases hk) (hM _ _ (h0 _ _ hk))
  rcases h with rfl | ⟨rfl, h, rfl⟩ | ⟨idO, hO, h, rfl⟩
  · exact XFin.wk (XFin.le hMN hK)
  · cases h
    exact XFin.wk (XFin.le hMN hK)
  · cases h
    have hO5 := lt_of_bnd hO h5
    refine XFin.frz idO (hle _ _ (by omega) (Mem.set_eq _ _ _)) ?_
    have e2 : frzA idO (rows.map Pr.row) (.tup [.l (.ms idO 0 rows.length), .agg [a, b, c, d, e, f]]) = .tup [.l (.sl (rows.map Pr.row)), .agg [a, b, c, d, e, f]] := by
      have := hf idO (rows.map Pr.row)
      simp only [frzA, frz1, List.map_cons, List.map_nil] at this ⊢
      rw [this]
      simp [frzL, List.take_of_length_le]
    rw [e2]
    refine XFin.wk (XFin.le (M' := M0) (fun k bk hk => ?_) hK)
    have hk' := h0 _ _ hk
    have := lt_of_bnd hO hk'
    rw [Mem.set_ne _ _ _ _ (by omega)]
    exact hMN _ _ hk

theorem doR_spec (l : List Pr) (hl : l.length ≤ 1000000) (op : Opn) (M : Mem) :
    XCalls Go.Proofs.Tryd.prog 15 [.l (.sl (l.map Pr.row)), .agg op.row] M fun r M' => r = .tup [.l (.sl ((doL l op).map Pr.row)), .agg (doA l op).row] ∧ M' = M := by
  refine xcalls_intro (rs := [.tmp 4, .cell 5 34]) Go.Proofs.Tryd.func15 rfl (by kernel_rfl) rfl rfl (by kernel_rfl) (by simp) ?_
  simp -implicitDefEqProofs (maxSteps := 1000000) (disch := omega) only [↓xsP, ↓vc_seq, xsQ, xsT, xsR, xsD, ↓reduceIte, reduceCtorEq, eq_self, ne_eq, imp_self, forall_const, Nat.reduceEqDiff, Nat.reduceAdd, Nat.reduceSub, Nat.reduceMul, Nat.reduceLT, Nat.reduceLeDiff, Nat.reduceBEq, Nat.reduceDiv, Nat.reduceMod, Int.reduceToNat, Int.reduceNeg, Int.reduceAdd, Int.reduceSub, Int.reduceMul, Int.reduceEq, Int.reduceNe, Int.reduceLT, Int.reduceLE, Int.reduceGT, Int.reduceGE]
  refine newI_intro fun p3 hp3 => ?_
  simp -implicitDefEqProofs (maxSteps := 1000000) (disch := omega) only [↓xsP, ↓vc_seq, xsQ, xsT, xsR, xsD, ↓reduceIte, reduceCtorEq, eq_self, ne_eq, imp_self, forall_const, Nat.reduceEqDiff, Nat.reduceAdd, Nat.reduceSub, Nat.reduceMul, Nat.reduceLT, Nat.reduceLeDiff, Nat.reduceBEq, Nat.reduceDiv, Nat.reduceMod, Int.reduceToNat, Int.reduceNeg, Int.reduceAdd, Int.reduceSub, Int.reduceMul, Int.reduceEq, Int.reduceNe, Int.reduceLT, Int.reduceLE, Int.reduceGT, Int.reduceGE]
  refine newI_intro fun p5 hp5 => ?_
  obtain ⟨h35, hp5⟩ := bnd_new hp5
  have hM3 : ((M.set p3 (.cells 25 [op.row] 0)).set p5 (.cells 34 [arow ans0] 0)) p3 = some (.cells 25 [op.row] 0) := by
    rw [Mem.set_ne _ _ _ _ (by omega), Mem.set_eq]
  have hM5 := Mem.set_eq (M.set p3 (.cells 25 [op.row] 0)) p5 (.cells 34 [arow ans0] 0)
  have hMN : M.le ((M.set p3 (.cells 25 [op.row] 0)).set p5 (.cells 34 [arow ans0] 0)) := le_new (le_new (Mem.le_refl M) hp3) hp5
  simp only [Opn.row, arow, ans0] at hM3 hM5 hMN
  simp -implicitDefEqProofs (maxSteps := 1000000) (disch := omega) only [↓xsP, ↓vc_seq, xsQ, xsT, xsR, xsD, ↓reduceIte, reduceCtorEq, eq_self, ne_eq, imp_self, forall_const, Nat.reduceEqDiff, Nat.reduceAdd, Nat.reduceSub, Nat.reduceMul, Nat.reduceLT, Nat.reduceLeDiff, Nat.reduceBEq, Nat.reduceDiv, Nat.reduceMod, Int.reduceToNat, Int.reduceNeg, Int.reduceAdd, Int.reduceSub, Int.reduceMul, Int.reduceEq, Int.reduceNe, Int.reduceLT, Int.reduceLE, Int.reduceGT, Int.reduceGE]
  generalize (M.set p3 _).set p5 _ = N at hM3 hM5 hMN ⊢
  refine app_clone (by omega) fun v M1 hO => ?_
  obtain ⟨s6, rfl⟩ := hO.val
  have hN1 := hO.base
  have h13 := hN1 _ _ hM3
  have h15 := hN1 _ _ hM5
  simp -implicitDefEqProofs (maxSteps := 1000000) (disch := omega) only [↓xsP, ↓vc_seq, xsQ, xsT, xsR, xsD, ↓reduceIte, reduceCtorEq, eq_self, ne_eq, imp_self, forall_const, Nat.reduceEqDiff, Nat.reduceAdd, Nat.reduceSub, Nat.reduceMul, Nat.reduceLT, Nat.reduceLeDiff, Nat.reduceBEq, Nat.reduceDiv, Nat.reduceMod, Int.reduceToNat, Int.reduceNeg, Int.reduceAdd, Int.reduceSub, Int.reduceMul, Int.reduceEq, Int.reduceNe, Int.reduceLT, Int.reduceLE, Int.reduceGT, Int.reduceGE]
  refine call_of (mayPairs_spec l (by omega) _) ?_
  cases hr : bof (Rises l) with
  | false =>
    have hk : okOp l op = false := by rw [okOp, hr]; rfl
    simp -implicitDefEqProofs (maxSteps := 1000000) (disch := omega) only [↓xsP, ↓vc_seq, xsQ, xsT, xsR, xsD, ↓reduceIte, reduceCtorEq, eq_self, ne_eq, imp_self, forall_const, Nat.reduceEqDiff, Nat.reduceAdd, Nat.reduceSub, Nat.reduceMul, Nat.reduceLT, Nat.reduceLeDiff, Nat.reduceBEq, Nat.reduceDiv, Nat.reduceMod, Int.reduceToNat, Int.reduceNeg, Int.reduceAdd, Int.reduceSub, Int.reduceMul, Int.reduceEq, Int.reduceNe, Int.reduceLT, Int.reduceLE, Int.reduceGT, Int.reduceGE, h15]
    refine finI_outQ p5 (.inr hO) (fun k bk hk hh => by rw [Mem.set_ne _ _ _ _ (Ne.symm hk)]; exact hh) hM5 hMN (hp5 _ (Nat.le_refl _)) hN1 (fun _ _ => rfl) ⟨?_, rfl⟩
    rw [doL, doA, if_pos hk, if_pos hk]
    rfl
  | true =>
    simp -implicitDefEqProofs (maxSteps := 1000000) (disch := omega) only [↓xsP, ↓vc_seq, xsQ, xsT, xsR, xsD, ↓reduceIte, reduceCtorEq, eq_self, ne_eq, imp_self, forall_const, Nat.reduceEqDiff, Nat.reduceAdd, Nat.reduceSub, Nat.reduceMul, Nat.reduceLT, Nat.reduceLeDiff, Nat.reduceBEq, Nat.reduceDiv, Nat.reduceMod, Int.reduceToNat, Int.reduceNeg, Int.reduceAdd, Int.reduceSub, Int.reduceMul, Int.reduceEq, Int.reduceNe, Int.reduceLT, Int.reduceLE, Int.reduceGT, Int.reduceGE, h13]
    refine call_of (mayOpR_spec op _) ?_
    cases hm : mayOpB op with
    | false =>
      have hk : okOp l op = false := by rw [okOp, hr, hm]; rfl
      simp -implicitDefEqProofs (maxSteps := 1000000) (disch := omega) only [↓xsP, ↓vc_seq, xsQ, xsT, xsR, xsD, ↓reduceIte, reduceCtorEq, eq_self, ne_eq, imp_self, forall_const, Nat.reduceEqDiff, Nat.reduceAdd, Nat.reduceSub, Nat.reduceMul, Nat.reduceLT, Nat.reduceLeDiff, Nat.reduceBEq, Nat.reduceDiv, Nat.reduceMod, Int.reduceToNat, Int.reduceNeg, Int.reduceAdd, Int.reduceSub, Int.reduceMul, Int.reduceEq, Int.reduceNe, Int.reduceLT, Int.reduceLE, Int.reduceGT, Int.reduceGE, h15]
      refine finI_outQ p5 (.inr hO) (fun k bk hk hh => by rw [Mem.set_ne _ _ _ _ (Ne.symm hk)]; exact hh) hM5 hMN (hp5 _ (Nat.le_refl _)) hN1 (fun _ _ => rfl) ⟨?_, rfl⟩
      rw [doL, doA, if_pos hk, if_pos hk]
      rfl
    | true =>
      have hP : Asc l := (rises_asc l).1 (bof_iff.1 hr)
      simp -implicitDefEqProofs (maxSteps := 1000000) (disch := omega) only [↓xsP, ↓vc_seq, xsQ, xsT, xsR, xsD, ↓reduceIte, reduceCtorEq, eq_self, ne_eq, imp_self, forall_const, Nat.reduceEqDiff, Nat.reduceAdd, Nat.reduceSub, Nat.reduceMul, Nat.reduceLT, Nat.reduceLeDiff, Nat.reduceBEq, Nat.reduceDiv, Nat.reduceMod, Int.reduceToNat, Int.reduceNeg, Int.reduceAdd, Int.reduceSub, Int.reduceMul, Int.reduceEq, Int.reduceNe, Int.reduceLT, Int.reduceLE, Int.reduceGT, Int.reduceGE, h13, h15]
      refine newI_intro fun p7 hp7 => ?_
      have h37 := lt_of_bnd hp7 h13
      have h57 := lt_of_bnd hp7 h15
      have hok : ¬ okOp l op = false := by rw [okOp, hr, hm]; simp
      have hmk := may_kind hm
      have hget : ∀ {k : Int}, op.kind = k → 4 ≤ k → doL l op = l := fun h1 h2 => doL_read (by omega)
      have hle7 : ∀ b, M1.le (M1.set p7 b) := fun b => le_new (Mem.le_refl _) hp7
      obtain ⟨a0, ha0⟩ : ∃ a0 : Ans, a0 = if 0 ≤ place l op.key ∧ op.kind ≤ 4 then ⟨0, true, l.getD (place l op.key).toNat default, 0, []⟩ else ans0 := ⟨_, rfl⟩
      have ha04 : op.kind ≤ 4 → a0 = doA l op := fun h4 => by
        rw [doA_one hP hm h4, ha0, ansAt]
        by_cases h0 : 0 ≤ place l op.key
        · rw [if_pos ⟨h0, h4⟩, if_pos h0]
        · rw [if_neg (fun h => h0 h.1), if_neg h0]
      have ha05 : 5 ≤ op.kind → a0 = ans0 := fun h5 => by rw [ha0, if_neg (by omega)]
      have hpn : a0.pairs = [] := by rw [ha0]; split <;> rfl
      simp -implicitDefEqProofs (maxSteps := 1000000) (disch := omega) only [↓xsP, xsQ, xsT, xsR, xsD, ↓reduceIte, reduceCtorEq, eq_self, ne_eq, imp_self, forall_const, Nat.reduceEqDiff, Nat.reduceAdd, Nat.reduceSub, Nat.reduceMul, Nat.reduceLT, Nat.reduceLeDiff, Nat.reduceBEq, Nat.reduceDiv, Nat.reduceMod, Int.reduceToNat, Int.reduceNeg, Int.reduceAdd, Int.reduceSub, Int.reduceMul, Int.reduceEq, Int.reduceNe, Int.reduceLT, Int.reduceLE, Int.reduceGT, Int.reduceGE]
      refine vc_cut (fun fr N' => fr 0 = .l (.sl (l.map Pr.row)) ∧ fr 3 = .l (.ptr p3 0 0) ∧ fr 5 = .l (.ptr p5 0 0) ∧ fr 6 = .l s6 ∧ fr 7 = .l (.ptr p7 0 0) ∧ N' = M1.set p7 (.cells 34 [arow a0] 0)) ?_ ?_
      · have hfs := fun N => findR_spec l (by omega) op.key N
        rcases place_cases l op.key with ⟨hp, _⟩ | ⟨i, hi, hp, _, _⟩
        · have ha0' : arow a0 = arow ans0 := by rw [ha0, hp, if_neg (by omega)]
          rw [ha0']
          rw [hp] at hfs
          simp -implicitDefEqProofs (maxSteps := 1000000) (disch := omega) only [↓xsP, ↓vc_seq, xsQ, xsT, xsR, xsD, ↓reduceIte, reduceCtorEq, eq_self, ne_eq, imp_self, forall_const, Nat.reduceEqDiff, Nat.reduceAdd, Nat.reduceSub, Nat.reduceMul, Nat.reduceLT, Nat.reduceLeDiff, Nat.reduceBEq, Nat.reduceDiv, Nat.reduceMod, Int.reduceToNat, Int.reduceNeg, Int.reduceAdd, Int.reduceSub, Int.reduceMul, Int.reduceEq, Int.reduceNe, Int.reduceLT, Int.reduceLE, Int.reduceGT, Int.reduceGE, h13, h15]
          refine call_of (hfs _) ?_
          simp -implicitDefEqProofs (maxSteps := 1000000) (disch := omega) only [↓xsP, ↓vc_seq, xsQ, xsT, xsR, xsD, ↓reduceIte, reduceCtorEq, eq_self, ne_eq, imp_self, forall_const, Nat.reduceEqDiff, Nat.reduceAdd, Nat.reduceSub, Nat.reduceMul, Nat.reduceLT, Nat.reduceLeDiff, Nat.reduceBEq, Nat.reduceDiv, Nat.reduceMod, Int.reduceToNat, Int.reduceNeg, Int.reduceAdd, Int.reduceSub, Int.reduceMul, Int.reduceEq, Int.reduceNe, Int.reduceLT, Int.reduceLE, Int.reduceGT, Int.reduceGE, h13, h15, arow, ans0]
        · have q0 : (0 ≤ (i : Int)) = True := eq_true (by omega)
          rw [hp] at hfs
          by_cases h4 : op.kind ≤ 4
          · have q4 : (op.kind ≤ 4) = True := eq_true h4
            have ha0' : arow a0 = arow ⟨0, true, l.getD i default, 0, []⟩ := by rw [ha0, hp, if_pos ⟨by omega, h4⟩]; rfl
            rw [ha0']
            simp -implicitDefEqProofs (maxSteps := 1000000) (disch := omega) only [↓xsP, ↓vc_seq, xsQ, xsT, xsR, xsD, ↓reduceIte, reduceCtorEq, eq_self, ne_eq, imp_self, forall_const, Nat.reduceEqDiff, Nat.reduceAdd, Nat.reduceSub, Nat.reduceMul, Nat.reduceLT, Nat.reduceLeDiff, Nat.reduceBEq, Nat.reduceDiv, Nat.reduceMod, Int.reduceToNat, Int.reduceNeg, Int.reduceAdd, Int.reduceSub, Int.reduceMul, Int.reduceEq, Int.reduceNe, Int.reduceLT, Int.reduceLE, Int.reduceGT, Int.reduceGE, h13, h15, q0, q4]
            refine call_of (hfs _) ?_
            simp -implicitDefEqProofs (maxSteps := 1000000) (disch := omega) only [↓xsP, ↓vc_seq, xsQ, xsT, xsR, xsD, ↓reduceIte, reduceCtorEq, eq_self, ne_eq, imp_self, forall_const, Nat.reduceEqDiff, Nat.reduceAdd, Nat.reduceSub, Nat.reduceMul, Nat.reduceLT, Nat.reduceLeDiff, Nat.reduceBEq, Nat.reduceDiv, Nat.reduceMod, Int.reduceToNat, Int.reduceNeg, Int.reduceAdd, Int.reduceSub, Int.reduceMul, Int.reduceEq, Int.reduceNe, Int.reduceLT, Int.reduceLE, Int.reduceGT, Int.reduceGE, h13, h15, q0, q4, arow]
          · have q4 : (op.kind ≤ 4) = False := eq_false h4
            have ha0' : arow a0 = arow ans0 := by rw [ha0, if_neg (fun h => h4 h.2)]
            rw [ha0']
            simp -implicitDefEqProofs (maxSteps := 1000000) (disch := omega) only [↓xsP, ↓vc_seq, xsQ, xsT, xsR, xsD, ↓reduceIte, reduceCtorEq, eq_self, ne_eq, imp_self, forall_const, Nat.reduceEqDiff, Nat.reduceAdd, Nat.reduceSub, Nat.reduceMul, Nat.reduceLT, Nat.reduceLeDiff, Nat.reduceBEq, Nat.reduceDiv, Nat.reduceMod, Int.reduceToNat, Int.reduceNeg, Int.reduceAdd, Int.reduceSub, Int.reduceMul, Int.reduceEq, Int.reduceNe, Int.reduceLT, Int.reduceLE, Int.reduceGT, Int.reduceGE, h13, h15, q0, q4]
            refine call_of (hfs _) ?_
            simp -implicitDefEqProofs (maxSteps := 1000000) (disch := omega) only [↓xsP, ↓vc_seq, xsQ, xsT, xsR, xsD, ↓reduceIte, reduceCtorEq, eq_self, ne_eq, imp_self, forall_const, Nat.reduceEqDiff, Nat.reduceAdd, Nat.reduceSub, Nat.reduceMul, Nat.reduceLT, Nat.reduceLeDiff, Nat.reduceBEq, Nat.reduceDiv, Nat.reduceMod, Int.reduceToNat, Int.reduceNeg, Int.reduceAdd, Int.reduceSub, Int.reduceMul, Int.reduceEq, Int.reduceNe, Int.reduceLT, Int.reduceLE, Int.reduceGT, Int.reduceGE, h13, h15, q0, q4, arow, ans0]
      · rintro fr N' ⟨h0, h3, h5, h6, h7, rfl⟩
        simp only [arow]
        refine vc_cut (fun fr N' => fr 5 = .l (.ptr p5 0 0) ∧ fr 7 = .l (.ptr p7 0 0) ∧ ∃ s a b c d e f, fr 6 = .l s ∧ OutQ N s M1 (doL l op) ∧ N' = M1.set p7 (.cells 34 [[a, b, c, d, e, f]] 0) ∧ [a, b, c, d, e, f].map wkL = (doA l op).row ∧ ∀ id r, [a, b, c, d, e, f].map (frzL id r) = [a, b, c, d, e, f]) ?_ ?_
        · have hq1 : ∀ b c k bk, k ≠ p5 → M1 k = some bk → ((M1.set p7 b).set p5 c) k = some bk := fun b c k bk hk hh => by
            rw [Mem.set_ne _ _ _ _ (Ne.symm hk)]
            exact hle7 _ _ _ hh
          have hok4 : op.kind ≤ 4 → a0.ok = decide (0 ≤ place l op.key) := fun h4 => by
            rw [ha0]
            by_cases h0p : 0 ≤ place l op.key
            · rw [if_pos ⟨h0p, h4⟩]; simp [h0p]
            · rw [if_neg (fun h => h0p h.1)]; simp [h0p, ans0]
          have ha0w : op.kind ≤ 4 → [Lf.int .i64 a0.err, .bool a0.ok, .int .i64 a0.pair.key, .int .i64 a0.pair.val, .int .i64 a0.n, .nils].map wkL = (doA l op).row := fun h4 => by
            rw [← ha04 h4]
            simp [wkL, Ans.row, hpn]
          have kcases : op.kind = 1 ∨ op.kind = 2 ∨ op.kind = 3 ∨ op.kind = 4 ∨ op.kind = 5 ∨ op.kind = 6 ∨ op.kind = 7 ∨ op.kind = 8 := by omega
          rcases kcases with k | k | k | k | k | k | k | k
          · simp -implicitDefEqProofs (maxSteps := 1000000) (disch := omega) only [↓xsP, ↓vc_seq, xsQ, xsT, xsR, xsD, ↓reduceIte, reduceCtorEq, eq_self, ne_eq, imp_self, forall_const, Nat.reduceEqDiff, Nat.reduceAdd, Nat.reduceSub, Nat.reduceMul, Nat.reduceLT, Nat.reduceLeDiff, Nat.reduceBEq, Nat.reduceDiv, Nat.reduceMod, Int.reduceToNat, Int.reduceNeg, Int.reduceAdd, Int.reduceSub, Int.reduceMul, Int.reduceEq, Int.reduceNe, Int.reduceLT, Int.reduceLE, Int.reduceGT, Int.reduceGE, h0, h3, h5, h6, h7, h13, h15, k]
            refine xwrite (fun n0 => [ (9, p5)]) [9] [] [[], [], [], [], [], [], [], [], [], []] (by kernel_rfl) (by kernel_rfl) (by kernel_rfl) (by kernel_rfl) (fun n0 hn0 => ⟨rfl, ?_, ?_⟩)
            · exact TOk_cons (.inl (lt_of_bnd hn0 (hle7 _ _ _ h15))) (TOk_nil _ _)
            · have h5n := lt_of_bnd hn0 (hle7 _ _ _ h15)
              have h3n := lt_of_bnd hn0 (hle7 _ _ _ h13)
              have h7n := lt_of_bnd hn0 (Mem.set_eq _ p7 _)
              simp -implicitDefEqProofs (maxSteps := 1000000) (disch := omega) only [↓xsP, ↓vc_seq, xsQ, xsT, xsR, xsD, ↓reduceIte, reduceCtorEq, eq_self, ne_eq, imp_self, forall_const, Nat.reduceEqDiff, Nat.reduceAdd, Nat.reduceSub, Nat.reduceMul, Nat.reduceLT, Nat.reduceLeDiff, Nat.reduceBEq, Nat.reduceDiv, Nat.reduceMod, Int.reduceToNat, Int.reduceNeg, Int.reduceAdd, Int.reduceSub, Int.reduceMul, Int.reduceEq, Int.reduceNe, Int.reduceLT, Int.reduceLE, Int.reduceGT, Int.reduceGE, h0, h3, h5, h6, h7, h13, h15, k]
              refine wcallI_of (fun M' _ => withR_spec l hl ⟨op.key, op.val⟩ M') ?_
              simp -implicitDefEqProofs (maxSteps := 1000000) (disch := omega) only [↓xsP, ↓vc_seq, xsQ, xsT, xsR, xsD, ↓reduceIte, reduceCtorEq, eq_self, ne_eq, imp_self, forall_const, Nat.reduceEqDiff, Nat.reduceAdd, Nat.reduceSub, Nat.reduceMul, Nat.reduceLT, Nat.reduceLeDiff, Nat.reduceBEq, Nat.reduceDiv, Nat.reduceMod, Int.reduceToNat, Int.reduceNeg, Int.reduceAdd, Int.reduceSub, Int.reduceMul, Int.reduceEq, Int.reduceNe, Int.reduceLT, Int.reduceLE, Int.reduceGT, Int.reduceGE, h0, h3, h5, h6, h7, h13, h15, k]
              refine finI_outQ p5 (M' := M1) (rows := doL l op) (.inl ?_) (hq1 _ _) hM5 hMN (hp5 _ (Nat.le_refl _)) hN1 (fun _ _ => rfl) ⟨?_, rfl⟩
              · rw [withR_eq hP, doL_upd hP hm (by omega), oneL, if_pos (.inl k)]
              · rw [ha0w (by omega)]
                rfl
          · by_cases h0p : 0 ≤ place l op.key
            · have hokv : a0.ok = true := by rw [hok4 (by omega)]; simp [h0p]
              simp -implicitDefEqProofs (maxSteps := 1000000) (disch := omega) only [↓xsP, ↓vc_seq, xsQ, xsT, xsR, xsD, ↓reduceIte, reduceCtorEq, eq_self, ne_eq, imp_self, forall_const, Nat.reduceEqDiff, Nat.reduceAdd, Nat.reduceSub, Nat.reduceMul, Nat.reduceLT, Nat.reduceLeDiff, Nat.reduceBEq, Nat.reduceDiv, Nat.reduceMod, Int.reduceToNat, Int.reduceNeg, Int.reduceAdd, Int.reduceSub, Int.reduceMul, Int.reduceEq, Int.reduceNe, Int.reduceLT, Int.reduceLE, Int.reduceGT, Int.reduceGE, h0, h3, h5, h6, h7, h13, h15, k, hokv]
              refine ⟨_, _, _, _, _, _, _, rfl, .inr ?_, rfl, ?_, fun _ _ => rfl⟩
              · rw [doL_upd hP hm (by omega), oneL, if_neg (by omega), if_neg (by omega)]
                exact hO
              · have := ha0w (by omega)
                rw [hokv] at this
                exact this
            · have hokv : a0.ok = false := by rw [hok4 (by omega)]; simp [h0p]
              simp -implicitDefEqProofs (maxSteps := 1000000) (disch := omega) only [↓xsP, ↓vc_seq, xsQ, xsT, xsR, xsD, ↓reduceIte, reduceCtorEq, eq_self, ne_eq, imp_self, forall_const, Nat.reduceEqDiff, Nat.reduceAdd, Nat.reduceSub, Nat.reduceMul, Nat.reduceLT, Nat.reduceLeDiff, Nat.reduceBEq, Nat.reduceDiv, Nat.reduceMod, Int.reduceToNat, Int.reduceNeg, Int.reduceAdd, Int.reduceSub, Int.reduceMul, Int.reduceEq, Int.reduceNe, Int.reduceLT, Int.reduceLE, Int.reduceGT, Int.reduceGE, h0, h3, h5, h6, h7, h13, h15, k, hokv]
              refine call_of (withR_spec l hl ⟨op.key, op.val⟩ _) ?_
              simp -implicitDefEqProofs (maxSteps := 1000000) (disch := omega) only [↓xsP, ↓vc_seq, xsQ, xsT, xsR, xsD, ↓reduceIte, reduceCtorEq, eq_self, ne_eq, imp_self, forall_const, Nat.reduceEqDiff, Nat.reduceAdd, Nat.reduceSub, Nat.reduceMul, Nat.reduceLT, Nat.reduceLeDiff, Nat.reduceBEq, Nat.reduceDiv, Nat.reduceMod, Int.reduceToNat, Int.reduceNeg, Int.reduceAdd, Int.reduceSub, Int.reduceMul, Int.reduceEq, Int.reduceNe, Int.reduceLT, Int.reduceLE, Int.reduceGT, Int.reduceGE, h0, h3, h5, h6, h7, h13, h15, k, hokv]
              refine ⟨_, _, _, _, _, _, _, rfl, .inl ?_, rfl, ?_, fun _ _ => rfl⟩
              · rw [withR_eq hP, doL_upd hP hm (by omega), oneL, if_pos (.inr ⟨k, by omega⟩)]
              · have := ha0w (by omega)
                rw [hokv] at this
                exact this
          · simp -implicitDefEqProofs (maxSteps := 1000000) (disch := omega) only [↓xsP, ↓vc_seq, xsQ, xsT, xsR, xsD, ↓reduceIte, reduceCtorEq, eq_self, ne_eq, imp_self, forall_const, Nat.reduceEqDiff, Nat.reduceAdd, Nat.reduceSub, Nat.reduceMul, Nat.reduceLT, Nat.reduceLeDiff, Nat.reduceBEq, Nat.reduceDiv, Nat.reduceMod, Int.reduceToNat, Int.reduceNeg, Int.reduceAdd, Int.reduceSub, Int.reduceMul, Int.reduceEq, Int.reduceNe, Int.reduceLT, Int.reduceLE, Int.reduceGT, Int.reduceGE, h0, h3, h5, h6, h7, h13, h15, k]
            refine call_of (without_spec l (by omega) op.key _) ?_
            simp -implicitDefEqProofs (maxSteps := 1000000) (disch := omega) only [↓xsP, ↓vc_seq, xsQ, xsT, xsR, xsD, ↓reduceIte, reduceCtorEq, eq_self, ne_eq, imp_self, forall_const, Nat.reduceEqDiff, Nat.reduceAdd, Nat.reduceSub, Nat.reduceMul, Nat.reduceLT, Nat.reduceLeDiff, Nat.reduceBEq, Nat.reduceDiv, Nat.reduceMod, Int.reduceToNat, Int.reduceNeg, Int.reduceAdd, Int.reduceSub, Int.reduceMul, Int.reduceEq, Int.reduceNe, Int.reduceLT, Int.reduceLE, Int.reduceGT, Int.reduceGE, h0, h3, h5, h6, h7, h13, h15, k]
            refine ⟨_, _, _, _, _, _, _, rfl, .inl ?_, rfl, ha0w (by omega), fun _ _ => rfl⟩
            rw [withoutR_eq hP k, doL_upd hP hm (by omega)]
          · simp -implicitDefEqProofs (maxSteps := 1000000) (disch := omega) only [↓xsP, ↓vc_seq, xsQ, xsT, xsR, xsD, ↓reduceIte, reduceCtorEq, eq_self, ne_eq, imp_self, forall_const, Nat.reduceEqDiff, Nat.reduceAdd, Nat.reduceSub, Nat.reduceMul, Nat.reduceLT, Nat.reduceLeDiff, Nat.reduceBEq, Nat.reduceDiv, Nat.reduceMod, Int.reduceToNat, Int.reduceNeg, Int.reduceAdd, Int.reduceSub, Int.reduceMul, Int.reduceEq, Int.reduceNe, Int.reduceLT, Int.reduceLE, Int.reduceGT, Int.reduceGE, h0, h3, h5, h6, h7, h13, h15, k]
            refine ⟨_, _, _, _, _, _, _, rfl, .inr ?_, rfl, ha0w (by omega), fun _ _ => rfl⟩
            rw [hget k (by omega)]
            exact hO
          · have ha0' := ha05 (by omega)
            subst ha0'
            have hdo : doA l op = ⟨0, false, ⟨0, 0⟩, (rng l op.key op.to).length, rng l op.key op.to⟩ := by rw [doA, if_neg hok, if_pos k]; rfl
            simp -implicitDefEqProofs (maxSteps := 1000000) (disch := omega) only [↓xsP, ↓vc_seq, xsQ, xsT, xsR, xsD, ↓reduceIte, reduceCtorEq, eq_self, ne_eq, imp_self, forall_const, Nat.reduceEqDiff, Nat.reduceAdd, Nat.reduceSub, Nat.reduceMul, Nat.reduceLT, Nat.reduceLeDiff, Nat.reduceBEq, Nat.reduceDiv, Nat.reduceMod, Int.reduceToNat, Int.reduceNeg, Int.reduceAdd, Int.reduceSub, Int.reduceMul, Int.reduceEq, Int.reduceNe, Int.reduceLT, Int.reduceLE, Int.reduceGT, Int.reduceGE, h0, h3, h5, h6, h7, h13, h15, k, ans0]
            refine call_of (between_spec l (by omega) op.key op.to _) ?_
            simp -implicitDefEqProofs (maxSteps := 1000000) (disch := omega) only [↓xsP, ↓vc_seq, xsQ, xsT, xsR, xsD, ↓reduceIte, reduceCtorEq, eq_self, ne_eq, imp_self, forall_const, Nat.reduceEqDiff, Nat.reduceAdd, Nat.reduceSub, Nat.reduceMul, Nat.reduceLT, Nat.reduceLeDiff, Nat.reduceBEq, Nat.reduceDiv, Nat.reduceMod, Int.reduceToNat, Int.reduceNeg, Int.reduceAdd, Int.reduceSub, Int.reduceMul, Int.reduceEq, Int.reduceNe, Int.reduceLT, Int.reduceLE, Int.reduceGT, Int.reduceGE, h0, h3, h5, h6, h7, h13, h15, k, ans0]
            refine ⟨_, _, _, _, _, _, _, rfl, .inr ?_, rfl, by rw [hdo]; rfl, fun _ _ => rfl⟩
            rw [hget k (by omega)]
            exact hO
          · have ha0' := ha05 (by omega)
            subst ha0'
            have hdo : doA l op = ⟨0, false, ⟨0, 0⟩, (rng l op.key op.to).length, []⟩ := by rw [doA, if_neg hok, if_neg (by omega), if_pos k]; rfl
            simp -implicitDefEqProofs (maxSteps := 1000000) (disch := omega) only [↓xsP, ↓vc_seq, xsQ, xsT, xsR, xsD, ↓reduceIte, reduceCtorEq, eq_self, ne_eq, imp_self, forall_const, Nat.reduceEqDiff, Nat.reduceAdd, Nat.reduceSub, Nat.reduceMul, Nat.reduceLT, Nat.reduceLeDiff, Nat.reduceBEq, Nat.reduceDiv, Nat.reduceMod, Int.reduceToNat, Int.reduceNeg, Int.reduceAdd, Int.reduceSub, Int.reduceMul, Int.reduceEq, Int.reduceNe, Int.reduceLT, Int.reduceLE, Int.reduceGT, Int.reduceGE, h0, h3, h5, h6, h7, h13, h15, k, ans0]
            refine call_of (between_spec l (by omega) op.key op.to _) ?_
            simp -implicitDefEqProofs (maxSteps := 1000000) (disch := omega) only [↓xsP, ↓vc_seq, xsQ, xsT, xsR, xsD, ↓reduceIte, reduceCtorEq, eq_self, ne_eq, imp_self, forall_const, Nat.reduceEqDiff, Nat.reduceAdd, Nat.reduceSub, Nat.reduceMul, Nat.reduceLT, Nat.reduceLeDiff, Nat.reduceBEq, Nat.reduceDiv, Nat.reduceMod, Int.reduceToNat, Int.reduceNeg, Int.reduceAdd, Int.reduceSub, Int.reduceMul, Int.reduceEq, Int.reduceNe, Int.reduceLT, Int.reduceLE, Int.reduceGT, Int.reduceGE, h0, h3, h5, h6, h7, h13, h15, k, ans0]
            refine ⟨_, _, _, _, _, _, _, rfl, .inr ?_, rfl, by rw [hdo]; rfl, fun _ _ => rfl⟩
            rw [hget k (by omega)]
            exact hO
          · have ha0' := ha05 (by omega)
            subst ha0'
            have hdo : doA l op = if l = [] then ans0 else ⟨0, true, l.getD 0 default, 0, []⟩ := by rw [doA, if_neg hok, if_neg (by omega), if_neg (by omega), if_pos k]
            have hget7 := hget k (by omega)
            simp -implicitDefEqProofs (maxSteps := 1000000) (disch := omega) only [↓xsP, ↓vc_seq, xsQ, xsT, xsR, xsD, ↓reduceIte, reduceCtorEq, eq_self, ne_eq, imp_self, forall_const, Nat.reduceEqDiff, Nat.reduceAdd, Nat.reduceSub, Nat.reduceMul, Nat.reduceLT, Nat.reduceLeDiff, Nat.reduceBEq, Nat.reduceDiv, Nat.reduceMod, Int.reduceToNat, Int.reduceNeg, Int.reduceAdd, Int.reduceSub, Int.reduceMul, Int.reduceEq, Int.reduceNe, Int.reduceLT, Int.reduceLE, Int.reduceGT, Int.reduceGE, h0, h3, h5, h6, h7, h13, h15, k, ans0]
            refine condI_prop (fun hp => ?_) (fun hp => ?_)
            · have hl0 : ¬ l = [] := fun e => by subst e; simp at hp
              have hpos : 0 < l.length := by omega
              rw [if_neg hl0] at hdo
              simp -implicitDefEqProofs (maxSteps := 1000000) (disch := omega) only [↓xsP, ↓vc_seq, xsQ, xsT, xsR, xsD, ↓reduceIte, reduceCtorEq, eq_self, ne_eq, imp_self, forall_const, Nat.reduceEqDiff, Nat.reduceAdd, Nat.reduceSub, Nat.reduceMul, Nat.reduceLT, Nat.reduceLeDiff, Nat.reduceBEq, Nat.reduceDiv, Nat.reduceMod, Int.reduceToNat, Int.reduceNeg, Int.reduceAdd, Int.reduceSub, Int.reduceMul, Int.reduceEq, Int.reduceNe, Int.reduceLT, Int.reduceLE, Int.reduceGT, Int.reduceGE, h0, h3, h5, h6, h7, h13, h15, k, ans0]
              exact ⟨_, _, _, _, _, _, _, rfl, .inr (by rw [hget7]; exact hO), rfl, by rw [hdo]; rfl, fun _ _ => rfl⟩
            · have hl0 : l = [] := List.eq_nil_of_length_eq_zero (by omega)
              rw [if_pos hl0] at hdo
              simp -implicitDefEqProofs (maxSteps := 1000000) (disch := omega) only [↓xsP, ↓vc_seq, xsQ, xsT, xsR, xsD, ↓reduceIte, reduceCtorEq, eq_self, ne_eq, imp_self, forall_const, Nat.reduceEqDiff, Nat.reduceAdd, Nat.reduceSub, Nat.reduceMul, Nat.reduceLT, Nat.reduceLeDiff, Nat.reduceBEq, Nat.reduceDiv, Nat.reduceMod, Int.reduceToNat, Int.reduceNeg, Int.reduceAdd, Int.reduceSub, Int.reduceMul, Int.reduceEq, Int.reduceNe, Int.reduceLT, Int.reduceLE, Int.reduceGT, Int.reduceGE, h0, h3, h5, h6, h7, h13, h15, k, ans0]
              exact ⟨_, _, _, _, _, _, _, rfl, .inr (by rw [hget7]; exact hO), rfl, by rw [hdo]; rfl, fun _ _ => rfl⟩
          · have ha0' := ha05 (by omega)
            subst ha0'
            have hdo : doA l op = if l = [] then ans0 else ⟨0, true, l.getD (l.length - 1) default, 0, []⟩ := by rw [doA, if_neg hok, if_neg (by omega), if_neg (by omega), if_neg (by omega), if_pos k]
            have hget7 := hget k (by omega)
            simp -implicitDefEqProofs (maxSteps := 1000000) (disch := omega) only [↓xsP, ↓vc_seq, xsQ, xsT, xsR, xsD, ↓reduceIte, reduceCtorEq, eq_self, ne_eq, imp_self, forall_const, Nat.reduceEqDiff, Nat.reduceAdd, Nat.reduceSub, Nat.reduceMul, Nat.reduceLT, Nat.reduceLeDiff, Nat.reduceBEq, Nat.reduceDiv, Nat.reduceMod, Int.reduceToNat, Int.reduceNeg, Int.reduceAdd, Int.reduceSub, Int.reduceMul, Int.reduceEq, Int.reduceNe, Int.reduceLT, Int.reduceLE, Int.reduceGT, Int.reduceGE, h0, h3, h5, h6, h7, h13, h15, k, ans0]
            refine condI_prop (fun hp => ?_) (fun hp => ?_)
            · have hl0 : ¬ l = [] := fun e => by subst e; simp at hp
              have hpos : 0 < l.length := by omega
              rw [if_neg hl0] at hdo
              simp -implicitDefEqProofs (maxSteps := 1000000) (disch := omega) only [↓xsP, ↓vc_seq, xsQ, xsT, xsR, xsD, ↓reduceIte, reduceCtorEq, eq_self, ne_eq, imp_self, forall_const, Nat.reduceEqDiff, Nat.reduceAdd, Nat.reduceSub, Nat.reduceMul, Nat.reduceLT, Nat.reduceLeDiff, Nat.reduceBEq, Nat.reduceDiv, Nat.reduceMod, Int.reduceToNat, Int.reduceNeg, Int.reduceAdd, Int.reduceSub, Int.reduceMul, Int.reduceEq, Int.reduceNe, Int.reduceLT, Int.reduceLE, Int.reduceGT, Int.reduceGE, h0, h3, h5, h6, h7, h13, h15, k, ans0]
              exact ⟨_, _, _, _, _, _, _, rfl, .inr (by rw [hget7]; exact hO), rfl, by rw [hdo]; rfl, fun _ _ => rfl⟩
            · have hl0 : l = [] := List.eq_nil_of_length_eq_zero (by omega)
              rw [if_pos hl0] at hdo
              simp -implicitDefEqProofs (maxSteps := 1000000) (disch := omega) only [↓xsP, ↓vc_seq, xsQ, xsT, xsR, xsD, ↓reduceIte, reduceCtorEq, eq_self, ne_eq, imp_self, forall_const, Nat.reduceEqDiff, Nat.reduceAdd, Nat.reduceSub, Nat.reduceMul, Nat.reduceLT, Nat.reduceLeDiff, Nat.reduceBEq, Nat.reduceDiv, Nat.reduceMod, Int.reduceToNat, Int.reduceNeg, Int.reduceAdd, Int.reduceSub, Int.reduceMul, Int.reduceEq, Int.reduceNe, Int.reduceLT, Int.reduceLE, Int.reduceGT, Int.reduceGE, h0, h3, h5, h6, h7, h13, h15, k, ans0]
              exact ⟨_, _, _, _, _, _, _, rfl, .inr (by rw [hget7]; exact hO), rfl, by rw [hdo]; rfl, fun _ _ => rfl⟩
        · clear h0 h3 h5 h6 h7
          rintro fr N' ⟨h5, h7, s, a, b, c, d, e, f, h6, hQ, rfl, hw, hf⟩
          simp -implicitDefEqProofs (maxSteps := 1000000) (disch := omega) only [↓xsP, ↓vc_seq, xsQ, xsT, xsR, xsD, ↓reduceIte, reduceCtorEq, eq_self, ne_eq, imp_self, forall_const, Nat.reduceEqDiff, Nat.reduceAdd, Nat.reduceSub, Nat.reduceMul, Nat.reduceLT, Nat.reduceLeDiff, Nat.reduceBEq, Nat.reduceDiv, Nat.reduceMod, Int.reduceToNat, Int.reduceNeg, Int.reduceAdd, Int.reduceSub, Int.reduceMul, Int.reduceEq, Int.reduceNe, Int.reduceLT, Int.reduceLE, Int.reduceGT, Int.reduceGE, h5, h6, h7]
          refine xwrite (fun n0 => [ (3, p5)]) [3] [] [[], [], [], []] (by kernel_rfl) (by kernel_rfl) (by kernel_rfl) (by kernel_rfl) (fun n0 hn0 => ⟨rfl, ?_, ?_⟩)
          · exact TOk_cons (.inl (lt_of_bnd hn0 (hle7 _ _ _ h15))) (TOk_nil _ _)
          · have h5n := lt_of_bnd hn0 (hle7 _ _ _ h15)
            have h7n := lt_of_bnd hn0 (Mem.set_eq _ p7 _)
            simp -implicitDefEqProofs (maxSteps := 1000000) (disch := omega) only [↓xsP, ↓vc_seq, xsQ, xsT, xsR, xsD, ↓reduceIte, reduceCtorEq, eq_self, ne_eq, imp_self, forall_const, Nat.reduceEqDiff, Nat.reduceAdd, Nat.reduceSub, Nat.reduceMul, Nat.reduceLT, Nat.reduceLeDiff, Nat.reduceBEq, Nat.reduceDiv, Nat.reduceMod, Int.reduceToNat, Int.reduceNeg, Int.reduceAdd, Int.reduceSub, Int.reduceMul, Int.reduceEq, Int.reduceNe, Int.reduceLT, Int.reduceLE, Int.reduceGT, Int.reduceGE, h5, h6, h7, h15]
            refine finI_outQ p5 hQ (fun k bk hk hh => ?_) hM5 hMN (hp5 _ (Nat.le_refl _)) hN1 hf ⟨?_, rfl⟩
            · rw [Mem.set_ne _ _ _ _ (Ne.symm hk)]
              exact hle7 _ _ _ hh
            · rw [hw]
              rfl
end Go.X
set_option linter.unusedVariables false
set_option linter.unusedSimpArgs false
set_option maxHeartbeats 20000000
set_option maxRecDepth 100000
namespace Go.X
open Go.Proofs.Tryd (prog)

/-- A slice of pairs that may be nil. -/
def IsL (x : Lf) (s : List Pr) : Prop := x = .sl (s.map Pr.row) ∨ s = [] ∧ x = .nils
theorem IsL.sl (s : List Pr) : IsL (.sl (s.map Pr.row)) s := .inl rfl
theorem doR_is {x : Lf} {l : List Pr} (hx : IsL x l) (hl : l.length ≤ 1000000) (op : Opn) (M : Mem) : XCalls Go.Proofs.Tryd.prog 15 [.l x, .agg op.row] M fun r M' => r = .tup [.l (.sl ((doL l op).map Pr.row)), .agg (doA l op).row] ∧ M' = M := by
  rcases hx with rfl | ⟨rfl, rfl⟩
  · exact doR_spec l hl op M
  · exact XCalls.wk (doR_spec [] hl op M)
end Go.X
set_option linter.unusedVariables false
set_option linter.unusedSimpArgs false
set_option maxHeartbeats 20000000
set_option maxRecDepth 100000
namespace Go.X
open Go.Proofs.Tryd (prog)

noncomputable def goesO (C : List Cl) : List Int → List Pr → Option (List Pr)
  | [], s => some s
  | i :: r, s => if 0 ≤ (clAt C i).fin ∧ doA s (clAt C i).op ≠ (clAt C i).ans then none else goesO C r (doL s (clAt C i).op)
theorem doA_lenO (l : List Pr) (op : Opn) : (doA l op).pairs.length ≤ l.length := by
  have h1 := stays_len (outside op.key op.to) l
  rw [doA]
  split
  · simp
  · split
    · exact h1
    · split
      · simp
      · split
        · split <;> simp [ans0]
        · split
          · split <;> simp [ans0]
          · rw [ansAt_pairs]; simp
theorem goes_spec (b : List Pr) (C : List Cl) (l : List Int) (hb : b.length ≤ 100000) (hC : C.length ≤ 1000) (hl : l.length ≤ 1000) (hin : ∀ x ∈ l, 0 ≤ x ∧ x < C.length) (M : Mem) :
    XCalls Go.Proofs.Tryd.prog 41 [.l (.sl (b.map Pr.row)), .l (.sl (C.map Cl.row)), .l (.sl (l.map irow))] M fun r M' =>
      match goesO C l (putL b) with
      | none => r = .tup [.l .nilp, .l (.bool false)] ∧ M' = M
      | some s => ∃ id, (∀ j, id ≤ j → M j = none) ∧ r = .tup [.l (.ptr id 0 0), .l (.bool true)] ∧ M' = M.set id (mapB s) := by
  refine xcalls_intro (rs := [.tmp 6, .tmp 7]) Go.Proofs.Tryd.func41 rfl (by kernel_rfl) rfl rfl (by kernel_rfl) (by simp) ?_
  simp -implicitDefEqProofs (maxSteps := 1000000) (disch := omega) only [↓xsP, ↓vc_seq, xsQ, xsT, xsR, xsD, ↓reduceIte, reduceCtorEq, eq_self, ne_eq, imp_self, forall_const, Nat.reduceEqDiff, Nat.reduceAdd, Nat.reduceSub, Nat.reduceMul, Nat.reduceLT, Nat.reduceLeDiff, Nat.reduceBEq, Nat.reduceDiv, Nat.reduceMod, Int.reduceToNat, Int.reduceNeg, Int.reduceAdd, Int.reduceSub, Int.reduceMul, Int.reduceEq, Int.reduceNe, Int.reduceLT, Int.reduceLE, Int.reduceGT, Int.reduceGE]
  refine callI_of ((new_spec b (by omega) _).mono ?_)
  rintro _ _ ⟨id, hid, rfl, rfl⟩
  have hpl := putL_len b
  simp -implicitDefEqProofs (maxSteps := 1000000) (disch := omega) only [↓xsP, ↓vc_seq, xsQ, xsT, xsR, xsD, ↓reduceIte, reduceCtorEq, eq_self, ne_eq, imp_self, forall_const, Nat.reduceEqDiff, Nat.reduceAdd, Nat.reduceSub, Nat.reduceMul, Nat.reduceLT, Nat.reduceLeDiff, Nat.reduceBEq, Nat.reduceDiv, Nat.reduceMod, Int.reduceToNat, Int.reduceNeg, Int.reduceAdd, Int.reduceSub, Int.reduceMul, Int.reduceEq, Int.reduceNe, Int.reduceLT, Int.reduceLE, Int.reduceGT, Int.reduceGE]
  refine loopI_of (xloop (by kernel_rfl) (fun k fr M' => ∃ (i : Nat) (s : List Pr), i ≤ l.length ∧ k = l.length - i ∧ fr 1 = .l (.sl (C.map Cl.row)) ∧ fr 8 = .l (.ptr id 0 0) ∧ fr 14 = .l (.sl (l.map irow)) ∧ fr 15 = .l (.int .i64 l.length) ∧ fr 16 = .l (.int .i64 i) ∧ M' = M.set id (mapB s) ∧
    goesO C l (putL b) = goesO C (l.drop i) s ∧ s.length ≤ b.length + i) l.length ?_ ?_)
  · exact ⟨0, putL b, Nat.zero_le _, rfl, by simp -implicitDefEqProofs (maxSteps := 1000000) (disch := omega) only [↓xsP, ↓vc_seq, xsQ, xsT, xsR, xsD, ↓reduceIte, reduceCtorEq, eq_self, ne_eq, imp_self, forall_const, Nat.reduceEqDiff, Nat.reduceAdd, Nat.reduceSub, Nat.reduceMul, Nat.reduceLT, Nat.reduceLeDiff, Nat.reduceBEq, Nat.reduceDiv, Nat.reduceMod, Int.reduceToNat, Int.reduceNeg, Int.reduceAdd, Int.reduceSub, Int.reduceMul, Int.reduceEq, Int.reduceNe, Int.reduceLT, Int.reduceLE, Int.reduceGT, Int.reduceGE], by simp -implicitDefEqProofs (maxSteps := 1000000) (disch := omega) only [↓xsP, ↓vc_seq, xsQ, xsT, xsR, xsD, ↓reduceIte, reduceCtorEq, eq_self, ne_eq, imp_self, forall_const, Nat.reduceEqDiff, Nat.reduceAdd, Nat.reduceSub, Nat.reduceMul, Nat.reduceLT, Nat.reduceLeDiff, Nat.reduceBEq, Nat.reduceDiv, Nat.reduceMod, Int.reduceToNat, Int.reduceNeg, Int.reduceAdd, Int.reduceSub, Int.reduceMul, Int.reduceEq, Int.reduceNe, Int.reduceLT, Int.reduceLE, Int.reduceGT, Int.reduceGE], by simp -implicitDefEqProofs (maxSteps := 1000000) (disch := omega) only [↓xsP, ↓vc_seq, xsQ, xsT, xsR, xsD, ↓reduceIte, reduceCtorEq, eq_self, ne_eq, imp_self, forall_const, Nat.reduceEqDiff, Nat.reduceAdd, Nat.reduceSub, Nat.reduceMul, Nat.reduceLT, Nat.reduceLeDiff, Nat.reduceBEq, Nat.reduceDiv, Nat.reduceMod, Int.reduceToNat, Int.reduceNeg, Int.reduceAdd, Int.reduceSub, Int.reduceMul, Int.reduceEq, Int.reduceNe, Int.reduceLT, Int.reduceLE, Int.reduceGT, Int.reduceGE], by simp -implicitDefEqProofs (maxSteps := 1000000) (disch := omega) only [↓xsP, ↓vc_seq, xsQ, xsT, xsR, xsD, ↓reduceIte, reduceCtorEq, eq_self, ne_eq, imp_self, forall_const, Nat.reduceEqDiff, Nat.reduceAdd, Nat.reduceSub, Nat.reduceMul, Nat.reduceLT, Nat.reduceLeDiff, Nat.reduceBEq, Nat.reduceDiv, Nat.reduceMod, Int.reduceToNat, Int.reduceNeg, Int.reduceAdd, Int.reduceSub, Int.reduceMul, Int.reduceEq, Int.reduceNe, Int.reduceLT, Int.reduceLE, Int.reduceGT, Int.reduceGE], by simp -implicitDefEqProofs (maxSteps := 1000000) (disch := omega) only [↓xsP, ↓vc_seq, xsQ, xsT, xsR, xsD, ↓reduceIte, reduceCtorEq, eq_self, ne_eq, imp_self, forall_const, Nat.reduceEqDiff, Nat.reduceAdd, Nat.reduceSub, Nat.reduceMul, Nat.reduceLT, Nat.reduceLeDiff, Nat.reduceBEq, Nat.reduceDiv, Nat.reduceMod, Int.reduceToNat, Int.reduceNeg, Int.reduceAdd, Int.reduceSub, Int.reduceMul, Int.reduceEq, Int.reduceNe, Int.reduceLT, Int.reduceLE, Int.reduceGT, Int.reduceGE, Int.cast_ofNat_Int], rfl, rfl, by omega⟩
  · rintro k fr M' ⟨i, s, hi, rfl, h1, h8, h14, h15, h16, hM', hgo, hsl⟩
    have hMi : M' id = some (mapB s) := by rw [hM']; exact Mem.set_eq _ _ _
    simp -implicitDefEqProofs (maxSteps := 1000000) (disch := omega) only [↓xsP, ↓vc_seq, xsQ, xsT, xsR, xsD, ↓reduceIte, reduceCtorEq, eq_self, ne_eq, imp_self, forall_const, Nat.reduceEqDiff, Nat.reduceAdd, Nat.reduceSub, Nat.reduceMul, Nat.reduceLT, Nat.reduceLeDiff, Nat.reduceBEq, Nat.reduceDiv, Nat.reduceMod, Int.reduceToNat, Int.reduceNeg, Int.reduceAdd, Int.reduceSub, Int.reduceMul, Int.reduceEq, Int.reduceNe, Int.reduceLT, Int.reduceLE, Int.reduceGT, Int.reduceGE, h1, h8, h14, h15, h16]
    refine condI_prop (fun hlt => ?_) (fun hlt => ?_)
    · have hil : i < l.length := by omega
      simp -implicitDefEqProofs (maxSteps := 1000000) (disch := omega) only [↓xsP, ↓vc_seq, xsQ, xsT, xsR, xsD, ↓reduceIte, reduceCtorEq, eq_self, ne_eq, imp_self, forall_const, Nat.reduceEqDiff, Nat.reduceAdd, Nat.reduceSub, Nat.reduceMul, Nat.reduceLT, Nat.reduceLeDiff, Nat.reduceBEq, Nat.reduceDiv, Nat.reduceMod, Int.reduceToNat, Int.reduceNeg, Int.reduceAdd, Int.reduceSub, Int.reduceMul, Int.reduceEq, Int.reduceNe, Int.reduceLT, Int.reduceLE, Int.reduceGT, Int.reduceGE, h1, h8, h14, h15, h16]
      have hyi := hin _ (getD_mem' l default hil)
      have hd : l.drop i = l.getD i default :: l.drop (i + 1) := by
        rw [List.drop_eq_getElem_cons hil, List.getD_eq_getElem?_getD, List.getElem?_eq_getElem hil, Option.getD_some]
      rw [hd, goesO] at hgo
      generalize hy : l.getD i default = y at hyi hgo ⊢
      have hyr : (0 ≤ y ∧ y < (C.length : Int)) = True := eq_true hyi
      simp -implicitDefEqProofs (maxSteps := 1000000) (disch := omega) only [↓xsP, ↓vc_seq, xsQ, xsT, xsR, xsD, ↓reduceIte, reduceCtorEq, eq_self, ne_eq, imp_self, forall_const, Nat.reduceEqDiff, Nat.reduceAdd, Nat.reduceSub, Nat.reduceMul, Nat.reduceLT, Nat.reduceLeDiff, Nat.reduceBEq, Nat.reduceDiv, Nat.reduceMod, Int.reduceToNat, Int.reduceNeg, Int.reduceAdd, Int.reduceSub, Int.reduceMul, Int.reduceEq, Int.reduceNe, Int.reduceLT, Int.reduceLE, Int.reduceGT, Int.reduceGE, h1, h8, h14, h15, h16]
      rw [show C.getD y.toNat default = clAt C y from rfl]
      obtain ⟨c, hc⟩ : ∃ c, clAt C y = c := ⟨_, rfl⟩
      have hcr : C.getD y.toNat default = c := hc
      rw [hc] at hgo ⊢
      refine callI_of ((modelDo_spec s (by omega) c.op id _ hMi).mono ?_)
      rintro _ _ ⟨rfl, rfl⟩
      simp -implicitDefEqProofs (maxSteps := 1000000) (disch := omega) only [↓xsP, ↓vc_seq, xsQ, xsT, xsR, xsD, ↓reduceIte, reduceCtorEq, eq_self, ne_eq, imp_self, forall_const, Nat.reduceEqDiff, Nat.reduceAdd, Nat.reduceSub, Nat.reduceMul, Nat.reduceLT, Nat.reduceLeDiff, Nat.reduceBEq, Nat.reduceDiv, Nat.reduceMod, Int.reduceToNat, Int.reduceNeg, Int.reduceAdd, Int.reduceSub, Int.reduceMul, Int.reduceEq, Int.reduceNe, Int.reduceLT, Int.reduceLE, Int.reduceGT, Int.reduceGE, h1, h8, h14, h15, h16]
      have hM2 : M'.set id (mapB (doL s c.op)) = M.set id (mapB (doL s c.op)) := by rw [hM', Mem.set_set]
      rw [hM2]
      refine newI_intro fun id2 hid2 => ?_
      obtain ⟨h12, hid2'⟩ := bnd_new hid2
      have hdl := doA_lenO s c.op
      have hdd := doL_len s c.op
      simp -implicitDefEqProofs (maxSteps := 1000000) (disch := omega) only [↓xsP, ↓vc_seq, xsQ, xsT, xsR, xsD, ↓reduceIte, reduceCtorEq, eq_self, ne_eq, imp_self, forall_const, Nat.reduceEqDiff, Nat.reduceAdd, Nat.reduceSub, Nat.reduceMul, Nat.reduceLT, Nat.reduceLeDiff, Nat.reduceBEq, Nat.reduceDiv, Nat.reduceMod, Int.reduceToNat, Int.reduceNeg, Int.reduceAdd, Int.reduceSub, Int.reduceMul, Int.reduceEq, Int.reduceNe, Int.reduceLT, Int.reduceLE, Int.reduceGT, Int.reduceGE, h1, h8, h14, h15, h16]
      refine xquiet (by kernel_rfl) (by kernel_rfl) (by kernel_rfl) ?_
      simp -implicitDefEqProofs (maxSteps := 1000000) (disch := omega) only [↓xsP, ↓vc_seq, xsQ, xsT, xsR, xsD, ↓reduceIte, reduceCtorEq, eq_self, ne_eq, imp_self, forall_const, Nat.reduceEqDiff, Nat.reduceAdd, Nat.reduceSub, Nat.reduceMul, Nat.reduceLT, Nat.reduceLeDiff, Nat.reduceBEq, Nat.reduceDiv, Nat.reduceMod, Int.reduceToNat, Int.reduceNeg, Int.reduceAdd, Int.reduceSub, Int.reduceMul, Int.reduceEq, Int.reduceNe, Int.reduceLT, Int.reduceLE, Int.reduceGT, Int.reduceGE, h1, h8, h14, h15, h16, hyr, hcr]
      refine gI_prop (fun hf => ?_) (fun hf => ?_)
      · simp -implicitDefEqProofs (maxSteps := 1000000) (disch := omega) only [↓xsP, ↓vc_seq, xsQ, xsT, xsR, xsD, ↓reduceIte, reduceCtorEq, eq_self, ne_eq, imp_self, forall_const, Nat.reduceEqDiff, Nat.reduceAdd, Nat.reduceSub, Nat.reduceMul, Nat.reduceLT, Nat.reduceLeDiff, Nat.reduceBEq, Nat.reduceDiv, Nat.reduceMod, Int.reduceToNat, Int.reduceNeg, Int.reduceAdd, Int.reduceSub, Int.reduceMul, Int.reduceEq, Int.reduceNe, Int.reduceLT, Int.reduceLE, Int.reduceGT, Int.reduceGE, h1, h8, h14, h15, h16, hyr, hcr, hf]
        refine dcallI_of (sameAns_spec (doA s c.op) c.ans (by omega) _) ?_
        simp -implicitDefEqProofs (maxSteps := 1000000) (disch := omega) only [↓xsP, ↓vc_seq, xsQ, xsT, xsR, xsD, ↓reduceIte, reduceCtorEq, eq_self, ne_eq, imp_self, forall_const, Nat.reduceEqDiff, Nat.reduceAdd, Nat.reduceSub, Nat.reduceMul, Nat.reduceLT, Nat.reduceLeDiff, Nat.reduceBEq, Nat.reduceDiv, Nat.reduceMod, Int.reduceToNat, Int.reduceNeg, Int.reduceAdd, Int.reduceSub, Int.reduceMul, Int.reduceEq, Int.reduceNe, Int.reduceLT, Int.reduceLE, Int.reduceGT, Int.reduceGE, h1, h8, h14, h15, h16, hyr, hcr, hf]
        refine condI_intro (fun hb => ?_) (fun hb => ?_)
        · simp -implicitDefEqProofs (maxSteps := 1000000) (disch := omega) only [↓xsP, ↓vc_seq, xsQ, xsT, xsR, xsD, ↓reduceIte, reduceCtorEq, eq_self, ne_eq, imp_self, forall_const, Nat.reduceEqDiff, Nat.reduceAdd, Nat.reduceSub, Nat.reduceMul, Nat.reduceLT, Nat.reduceLeDiff, Nat.reduceBEq, Nat.reduceDiv, Nat.reduceMod, Int.reduceToNat, Int.reduceNeg, Int.reduceAdd, Int.reduceSub, Int.reduceMul, Int.reduceEq, Int.reduceNe, Int.reduceLT, Int.reduceLE, Int.reduceGT, Int.reduceGE, h1, h8, h14, h15, h16]
          have hne : doA s c.op ≠ c.ans := bof_not.1 (by simpa using hb)
          rw [if_pos ⟨hf, hne⟩] at hgo
          refine fin_ok (le_new (le_new (Mem.le_refl _) hid) hid2') ?_
          rw [hgo]
          exact ⟨rfl, rfl⟩
        · simp -implicitDefEqProofs (maxSteps := 1000000) (disch := omega) only [↓xsP, ↓vc_seq, xsQ, xsT, xsR, xsD, ↓reduceIte, reduceCtorEq, eq_self, ne_eq, imp_self, forall_const, Nat.reduceEqDiff, Nat.reduceAdd, Nat.reduceSub, Nat.reduceMul, Nat.reduceLT, Nat.reduceLeDiff, Nat.reduceBEq, Nat.reduceDiv, Nat.reduceMod, Int.reduceToNat, Int.reduceNeg, Int.reduceAdd, Int.reduceSub, Int.reduceMul, Int.reduceEq, Int.reduceNe, Int.reduceLT, Int.reduceLE, Int.reduceGT, Int.reduceGE, h1, h8, h14, h15, h16]
          have heq : doA s c.op = c.ans := bof_iff.1 (by simpa using hb)
          rw [if_neg (fun h => h.2 heq)] at hgo
          exact ⟨l.length - (i + 1), M.set id (mapB (doL s c.op)), by omega, le_new (Mem.le_refl _) hid2, i + 1, doL s c.op, by omega, rfl, by simp, rfl, hgo, by omega⟩
      · simp -implicitDefEqProofs (maxSteps := 1000000) (disch := omega) only [↓xsP, ↓vc_seq, xsQ, xsT, xsR, xsD, ↓reduceIte, reduceCtorEq, eq_self, ne_eq, imp_self, forall_const, Nat.reduceEqDiff, Nat.reduceAdd, Nat.reduceSub, Nat.reduceMul, Nat.reduceLT, Nat.reduceLeDiff, Nat.reduceBEq, Nat.reduceDiv, Nat.reduceMod, Int.reduceToNat, Int.reduceNeg, Int.reduceAdd, Int.reduceSub, Int.reduceMul, Int.reduceEq, Int.reduceNe, Int.reduceLT, Int.reduceLE, Int.reduceGT, Int.reduceGE, h1, h8, h14, h15, h16, hyr, hcr, hf]
        rw [if_neg (fun h => hf h.1)] at hgo
        exact ⟨l.length - (i + 1), M.set id (mapB (doL s c.op)), by omega, le_new (Mem.le_refl _) hid2, i + 1, doL s c.op, by omega, rfl, by simp, rfl, hgo, by omega⟩
    · simp -implicitDefEqProofs (maxSteps := 1000000) (disch := omega) only [↓xsP, ↓vc_seq, xsQ, xsT, xsR, xsD, ↓reduceIte, reduceCtorEq, eq_self, ne_eq, imp_self, forall_const, Nat.reduceEqDiff, Nat.reduceAdd, Nat.reduceSub, Nat.reduceMul, Nat.reduceLT, Nat.reduceLeDiff, Nat.reduceBEq, Nat.reduceDiv, Nat.reduceMod, Int.reduceToNat, Int.reduceNeg, Int.reduceAdd, Int.reduceSub, Int.reduceMul, Int.reduceEq, Int.reduceNe, Int.reduceLT, Int.reduceLE, Int.reduceGT, Int.reduceGE, h1, h8, h14, h15, h16]
      have hil : i = l.length := by omega
      rw [hil, List.drop_length, goesO] at hgo
      refine fin_ok (Mem.le_refl _) ?_
      rw [hgo]
      exact ⟨id, hid, rfl, hM'⟩

noncomputable def rightB (b : List Pr) (h : List Evt) (l : List Int) : Bool := bof (Rises b) && (okP h && (namedB (callsP h) l && timelyB (callsP h) l))
noncomputable def rightO (b : List Pr) (h : List Evt) (l : List Int) : Option (List Pr) := if rightB b h l = true then goesO (callsP h) l (putL b) else none
theorem named_in {C : List Cl} {l : List Int} (h : namedB C l = true) : ∀ x ∈ l, 0 ≤ x ∧ x < C.length := (bof_iff.1 h).1
theorem right_spec (b : List Pr) (h : List Evt) (l : List Int) (hb : b.length ≤ 100000) (hs : Small h) (hh : h.length ≤ 1000) (hl : l.length ≤ 1000) (M : Mem) :
    XCalls Go.Proofs.Tryd.prog 28 [.l (.sl (b.map Pr.row)), .l (.sl (h.map Evt.row)), .l (.sl (l.map irow))] M fun r M' =>
      match rightO b h l with
      | none => r = .tup [.l .nilp, .l (.bool false)] ∧ M' = M
      | some s => ∃ id, (∀ j, id ≤ j → M j = none) ∧ r = .tup [.l (.ptr id 0 0), .l (.bool true)] ∧ M' = M.set id (mapB s) := by
  refine xcalls_intro (rs := [.tmp 6, .tmp 7]) Go.Proofs.Tryd.func28 rfl (by kernel_rfl) rfl rfl (by kernel_rfl) (by simp) ?_
  have hcl := callsP_len h
  have hbad : rightB b h l = false → @finI prog (.tup [.l .nilp, .l (.bool false)]) M ⟨fun r M' =>
      match rightO b h l with
      | none => r = .tup [.l .nilp, .l (.bool false)] ∧ M' = M
      | some s => ∃ id, (∀ j, id ≤ j → M j = none) ∧ r = .tup [.l (.ptr id 0 0), .l (.bool true)] ∧ M' = M.set id (mapB s)⟩ := fun hr => by
    refine fin_ok (Mem.le_refl _) ?_
    rw [rightO, hr]
    exact ⟨rfl, rfl⟩
  simp -implicitDefEqProofs (maxSteps := 1000000) (disch := omega) only [↓xsP, ↓vc_seq, xsQ, xsT, xsR, xsD, ↓reduceIte, reduceCtorEq, eq_self, ne_eq, imp_self, forall_const, Nat.reduceEqDiff, Nat.reduceAdd, Nat.reduceSub, Nat.reduceMul, Nat.reduceLT, Nat.reduceLeDiff, Nat.reduceBEq, Nat.reduceDiv, Nat.reduceMod, Int.reduceToNat, Int.reduceNeg, Int.reduceAdd, Int.reduceSub, Int.reduceMul, Int.reduceEq, Int.reduceNe, Int.reduceLT, Int.reduceLE, Int.reduceGT, Int.reduceGE]
  refine call_of (may_spec b (by omega) _) ?_
  cases h1 : bof (Rises b) with
  | false =>
    simp -implicitDefEqProofs (maxSteps := 1000000) (disch := omega) only [↓xsP, ↓vc_seq, xsQ, xsT, xsR, xsD, ↓reduceIte, reduceCtorEq, eq_self, ne_eq, imp_self, forall_const, Nat.reduceEqDiff, Nat.reduceAdd, Nat.reduceSub, Nat.reduceMul, Nat.reduceLT, Nat.reduceLeDiff, Nat.reduceBEq, Nat.reduceDiv, Nat.reduceMod, Int.reduceToNat, Int.reduceNeg, Int.reduceAdd, Int.reduceSub, Int.reduceMul, Int.reduceEq, Int.reduceNe, Int.reduceLT, Int.reduceLE, Int.reduceGT, Int.reduceGE]
    exact hbad (by rw [rightB, h1]; rfl)
  | true =>
    simp -implicitDefEqProofs (maxSteps := 1000000) (disch := omega) only [↓xsP, ↓vc_seq, xsQ, xsT, xsR, xsD, ↓reduceIte, reduceCtorEq, eq_self, ne_eq, imp_self, forall_const, Nat.reduceEqDiff, Nat.reduceAdd, Nat.reduceSub, Nat.reduceMul, Nat.reduceLT, Nat.reduceLeDiff, Nat.reduceBEq, Nat.reduceDiv, Nat.reduceMod, Int.reduceToNat, Int.reduceNeg, Int.reduceAdd, Int.reduceSub, Int.reduceMul, Int.reduceEq, Int.reduceNe, Int.reduceLT, Int.reduceLE, Int.reduceGT, Int.reduceGE]
    refine call_of (pmay_spec h hs _) ?_
    cases h2 : okP h with
    | false =>
      simp -implicitDefEqProofs (maxSteps := 1000000) (disch := omega) only [↓xsP, ↓vc_seq, xsQ, xsT, xsR, xsD, ↓reduceIte, reduceCtorEq, eq_self, ne_eq, imp_self, forall_const, Nat.reduceEqDiff, Nat.reduceAdd, Nat.reduceSub, Nat.reduceMul, Nat.reduceLT, Nat.reduceLeDiff, Nat.reduceBEq, Nat.reduceDiv, Nat.reduceMod, Int.reduceToNat, Int.reduceNeg, Int.reduceAdd, Int.reduceSub, Int.reduceMul, Int.reduceEq, Int.reduceNe, Int.reduceLT, Int.reduceLE, Int.reduceGT, Int.reduceGE]
      exact hbad (by rw [rightB, h1, h2]; rfl)
    | true =>
      simp -implicitDefEqProofs (maxSteps := 1000000) (disch := omega) only [↓xsP, ↓vc_seq, xsQ, xsT, xsR, xsD, ↓reduceIte, reduceCtorEq, eq_self, ne_eq, imp_self, forall_const, Nat.reduceEqDiff, Nat.reduceAdd, Nat.reduceSub, Nat.reduceMul, Nat.reduceLT, Nat.reduceLeDiff, Nat.reduceBEq, Nat.reduceDiv, Nat.reduceMod, Int.reduceToNat, Int.reduceNeg, Int.reduceAdd, Int.reduceSub, Int.reduceMul, Int.reduceEq, Int.reduceNe, Int.reduceLT, Int.reduceLE, Int.reduceGT, Int.reduceGE]
      refine call_of (pcalls_spec h hs _) ?_
      simp -implicitDefEqProofs (maxSteps := 1000000) (disch := omega) only [↓xsP, ↓vc_seq, xsQ, xsT, xsR, xsD, ↓reduceIte, reduceCtorEq, eq_self, ne_eq, imp_self, forall_const, Nat.reduceEqDiff, Nat.reduceAdd, Nat.reduceSub, Nat.reduceMul, Nat.reduceLT, Nat.reduceLeDiff, Nat.reduceBEq, Nat.reduceDiv, Nat.reduceMod, Int.reduceToNat, Int.reduceNeg, Int.reduceAdd, Int.reduceSub, Int.reduceMul, Int.reduceEq, Int.reduceNe, Int.reduceLT, Int.reduceLE, Int.reduceGT, Int.reduceGE]
      refine callI_of ((named_spec (callsP h) l (by omega) hl _).mono ?_)
      rintro _ M ⟨⟨s, rfl⟩, rfl⟩
      cases h3 : namedB (callsP h) l with
      | false =>
        simp -implicitDefEqProofs (maxSteps := 1000000) (disch := omega) only [↓xsP, ↓vc_seq, xsQ, xsT, xsR, xsD, ↓reduceIte, reduceCtorEq, eq_self, ne_eq, imp_self, forall_const, Nat.reduceEqDiff, Nat.reduceAdd, Nat.reduceSub, Nat.reduceMul, Nat.reduceLT, Nat.reduceLeDiff, Nat.reduceBEq, Nat.reduceDiv, Nat.reduceMod, Int.reduceToNat, Int.reduceNeg, Int.reduceAdd, Int.reduceSub, Int.reduceMul, Int.reduceEq, Int.reduceNe, Int.reduceLT, Int.reduceLE, Int.reduceGT, Int.reduceGE]
        exact hbad (by rw [rightB, h1, h2, h3]; rfl)
      | true =>
        simp -implicitDefEqProofs (maxSteps := 1000000) (disch := omega) only [↓xsP, ↓vc_seq, xsQ, xsT, xsR, xsD, ↓reduceIte, reduceCtorEq, eq_self, ne_eq, imp_self, forall_const, Nat.reduceEqDiff, Nat.reduceAdd, Nat.reduceSub, Nat.reduceMul, Nat.reduceLT, Nat.reduceLeDiff, Nat.reduceBEq, Nat.reduceDiv, Nat.reduceMod, Int.reduceToNat, Int.reduceNeg, Int.reduceAdd, Int.reduceSub, Int.reduceMul, Int.reduceEq, Int.reduceNe, Int.reduceLT, Int.reduceLE, Int.reduceGT, Int.reduceGE]
        refine call_of (timely_spec (callsP h) l (by omega) hl (named_in h3) _) ?_
        cases h4 : timelyB (callsP h) l with
        | false =>
          simp -implicitDefEqProofs (maxSteps := 1000000) (disch := omega) only [↓xsP, ↓vc_seq, xsQ, xsT, xsR, xsD, ↓reduceIte, reduceCtorEq, eq_self, ne_eq, imp_self, forall_const, Nat.reduceEqDiff, Nat.reduceAdd, Nat.reduceSub, Nat.reduceMul, Nat.reduceLT, Nat.reduceLeDiff, Nat.reduceBEq, Nat.reduceDiv, Nat.reduceMod, Int.reduceToNat, Int.reduceNeg, Int.reduceAdd, Int.reduceSub, Int.reduceMul, Int.reduceEq, Int.reduceNe, Int.reduceLT, Int.reduceLE, Int.reduceGT, Int.reduceGE]
          exact hbad (by rw [rightB, h1, h2, h3, h4]; rfl)
        | true =>
          simp -implicitDefEqProofs (maxSteps := 1000000) (disch := omega) only [↓xsP, ↓vc_seq, xsQ, xsT, xsR, xsD, ↓reduceIte, reduceCtorEq, eq_self, ne_eq, imp_self, forall_const, Nat.reduceEqDiff, Nat.reduceAdd, Nat.reduceSub, Nat.reduceMul, Nat.reduceLT, Nat.reduceLeDiff, Nat.reduceBEq, Nat.reduceDiv, Nat.reduceMod, Int.reduceToNat, Int.reduceNeg, Int.reduceAdd, Int.reduceSub, Int.reduceMul, Int.reduceEq, Int.reduceNe, Int.reduceLT, Int.reduceLE, Int.reduceGT, Int.reduceGE]
          have hr : rightO b h l = goesO (callsP h) l (putL b) := by rw [rightO, if_pos (by rw [rightB, h1, h2, h3, h4]; rfl)]
          refine callI_of ((goes_spec b (callsP h) l hb (by omega) hl (named_in h3) _).mono ?_)
          intro r M' hk
          cases hg : goesO (callsP h) l (putL b) with
          | none =>
            rw [hg] at hk
            obtain ⟨rfl, rfl⟩ := hk
            simp -implicitDefEqProofs (maxSteps := 1000000) (disch := omega) only [↓xsP, ↓vc_seq, xsQ, xsT, xsR, xsD, ↓reduceIte, reduceCtorEq, eq_self, ne_eq, imp_self, forall_const, Nat.reduceEqDiff, Nat.reduceAdd, Nat.reduceSub, Nat.reduceMul, Nat.reduceLT, Nat.reduceLeDiff, Nat.reduceBEq, Nat.reduceDiv, Nat.reduceMod, Int.reduceToNat, Int.reduceNeg, Int.reduceAdd, Int.reduceSub, Int.reduceMul, Int.reduceEq, Int.reduceNe, Int.reduceLT, Int.reduceLE, Int.reduceGT, Int.reduceGE]
            refine fin_ok (Mem.le_refl _) ?_
            rw [hr, hg]
            exact ⟨rfl, rfl⟩
          | some s =>
            rw [hg] at hk
            obtain ⟨id, hid, rfl, rfl⟩ := hk
            simp -implicitDefEqProofs (maxSteps := 1000000) (disch := omega) only [↓xsP, ↓vc_seq, xsQ, xsT, xsR, xsD, ↓reduceIte, reduceCtorEq, eq_self, ne_eq, imp_self, forall_const, Nat.reduceEqDiff, Nat.reduceAdd, Nat.reduceSub, Nat.reduceMul, Nat.reduceLT, Nat.reduceLeDiff, Nat.reduceBEq, Nat.reduceDiv, Nat.reduceMod, Int.reduceToNat, Int.reduceNeg, Int.reduceAdd, Int.reduceSub, Int.reduceMul, Int.reduceEq, Int.reduceNe, Int.reduceLT, Int.reduceLE, Int.reduceGT, Int.reduceGE]
            refine fin_ok (Mem.le_refl _) ?_
            rw [hr, hg]
            exact ⟨id, hid, rfl, rfl⟩
theorem oright_spec (b : List Pr) (h : List Evt) (l : List Int) (hb : b.length ≤ 100000) (hs : Small h) (hh : h.length ≤ 1000) (hl : l.length ≤ 1000) (M : Mem) :
    XCalls Go.Proofs.Tryd.prog 17 [.l (.sl (b.map Pr.row)), .l (.sl (h.map Evt.row)), .l (.sl (l.map irow))] M fun r M' => r = .l (.bool (rightO b h l).isSome) ∧ M' = M := by
  refine xcalls_intro (rs := [.tmp 6]) Go.Proofs.Tryd.func17 rfl (by kernel_rfl) rfl rfl (by kernel_rfl) (by simp) ?_
  simp -implicitDefEqProofs (maxSteps := 1000000) (disch := omega) only [↓xsP, ↓vc_seq, xsQ, xsT, xsR, xsD, ↓reduceIte, reduceCtorEq, eq_self, ne_eq, imp_self, forall_const, Nat.reduceEqDiff, Nat.reduceAdd, Nat.reduceSub, Nat.reduceMul, Nat.reduceLT, Nat.reduceLeDiff, Nat.reduceBEq, Nat.reduceDiv, Nat.reduceMod, Int.reduceToNat, Int.reduceNeg, Int.reduceAdd, Int.reduceSub, Int.reduceMul, Int.reduceEq, Int.reduceNe, Int.reduceLT, Int.reduceLE, Int.reduceGT, Int.reduceGE]
  refine callI_of ((right_spec b h l hb hs hh hl _).mono ?_)
  intro r M' hk
  cases hg : rightO b h l with
  | none =>
    rw [hg] at hk
    obtain ⟨rfl, rfl⟩ := hk
    simp -implicitDefEqProofs (maxSteps := 1000000) (disch := omega) only [↓xsP, ↓vc_seq, xsQ, xsT, xsR, xsD, ↓reduceIte, reduceCtorEq, eq_self, ne_eq, imp_self, forall_const, Nat.reduceEqDiff, Nat.reduceAdd, Nat.reduceSub, Nat.reduceMul, Nat.reduceLT, Nat.reduceLeDiff, Nat.reduceBEq, Nat.reduceDiv, Nat.reduceMod, Int.reduceToNat, Int.reduceNeg, Int.reduceAdd, Int.reduceSub, Int.reduceMul, Int.reduceEq, Int.reduceNe, Int.reduceLT, Int.reduceLE, Int.reduceGT, Int.reduceGE]
    exact fin_ok (Mem.le_refl _) ⟨rfl, rfl⟩
  | some s =>
    rw [hg] at hk
    obtain ⟨id, hid, rfl, rfl⟩ := hk
    simp -implicitDefEqProofs (maxSteps := 1000000) (disch := omega) only [↓xsP, ↓vc_seq, xsQ, xsT, xsR, xsD, ↓reduceIte, reduceCtorEq, eq_self, ne_eq, imp_self, forall_const, Nat.reduceEqDiff, Nat.reduceAdd, Nat.reduceSub, Nat.reduceMul, Nat.reduceLT, Nat.reduceLeDiff, Nat.reduceBEq, Nat.reduceDiv, Nat.reduceMod, Int.reduceToNat, Int.reduceNeg, Int.reduceAdd, Int.reduceSub, Int.reduceMul, Int.reduceEq, Int.reduceNe, Int.reduceLT, Int.reduceLE, Int.reduceGT, Int.reduceGE]
    exact fin_ok (le_new (Mem.le_refl _) hid) ⟨rfl, rfl⟩
end Go.X
set_option linter.unusedVariables false
set_option linter.unusedSimpArgs false
set_option maxRecDepth 100000
namespace Go.X

def lastBy (out : List Cl) (w : Int) : Nat → Option Nat
  | 0 => none
  | n + 1 => if (out.getD n default).who = w then some n else lastBy out w n
theorem lastBy_is {out : List Cl} {w : Int} {k : Nat} (hk : (out.getD k default).who = w) : ∀ {n : Nat}, k < n → (∀ j, k < j → j < n → (out.getD j default).who ≠ w) → lastBy out w n = some k
  | 0, h, _ => by omega
  | n + 1, h, ho => by
    rw [lastBy]
    by_cases e : k = n
    · subst e
      rw [if_pos hk]
    · rw [if_neg (ho n (by omega) (by omega))]
      exact lastBy_is hk (by omega) fun j h1 h2 => ho j h1 (by omega)
noncomputable def cstep (i : Nat) (x : Evt) (out : List Cl) : List Cl :=
  if x.ret = false then out ++ [⟨x.who, i, -1, x.op, ans0⟩]
  else match lastBy out x.who out.length with
    | some k => out.set k { out.getD k default with fin := i, ans := x.ans }
    | none => out
noncomputable def crun : List Evt → Nat → List Cl → List Cl
  | [], _, out => out
  | x :: r, i, out => crun r (i + 1) (cstep i x out)
theorem crun_rrun {h : List Evt} {l : List Evt} : ∀ (i : Nat) (s s' : List Cl × List (Int × Int)), h.drop i = l → i ≤ h.length → HInv h i s → rrun l i s = some s' → crun l i s.1 = s'.1 := by
  induction l with
  | nil =>
    intro i s s' hd hi I hr
    simp only [rrun, Option.some.injEq] at hr
    subst hr
    rfl
  | cons x l ih =>
    intro i s s' hd hi I hr
    have hi' : i < h.length := by
      rcases Nat.lt_or_ge i h.length with h' | h'
      · exact h'
      · rw [List.drop_of_length_le h'] at hd; cases hd
    have hdrop := List.drop_eq_getElem_cons hi'
    rw [hd] at hdrop
    obtain ⟨hx, hl⟩ := List.cons.inj hdrop
    have hg : h.getD i default = x := by simp [List.getD_eq_getElem?_getD, hi', ← hx]
    simp only [rrun] at hr
    cases hst : rstep i x s with
    | none => rw [hst] at hr; cases hr
    | some s1 =>
      rw [hst, Option.bind_some] at hr
      have hn := ih (i + 1) s1 s' hl.symm (by omega) (I.step hi' (by rw [hg]; exact hst)) hr
      rw [crun, ← hn]
      congr 1
      obtain ⟨out, ms⟩ := s
      obtain ⟨_, _, hc⟩ := rstep_cases I hst
      rcases hc with ⟨hret, _, _, _, rfl⟩ | ⟨hret, k0, hk0, _, hwho, hfin, _, rfl⟩
      · rw [cstep, if_pos hret]
      · have hlb : lastBy out x.who out.length = some k0 := lastBy_is hwho hk0 fun j h1 h2 e => by
          have := I.seq k0 j h1 h2 (by rw [hwho, e])
          simp only [hfin] at this
          omega
        rw [cstep, if_neg (by simp [hret])]
        simp only [hlb]
theorem calR_eq {h : List Evt} (hok : okP h = true) : crun h 0 [] = callsP h := by
  obtain ⟨ms, hr, _⟩ := okP_inv hok
  exact crun_rrun 0 ([], []) _ rfl (Nat.zero_le _) (HInv.zero h) hr

theorem rrun_mrun {h : List Evt} {l : List Evt} : ∀ (i : Nat) (m : List Bool × List Opn) (s s' : List Cl × List (Int × Int)), h.drop i = l → i ≤ h.length → HInv h i s → MInv m s → rrun l i s = some s' → ∃ m', mrun l m = some m' := by
  induction l with
  | nil =>
    intro i m s s' hd hi I J hr
    exact ⟨m, rfl⟩
  | cons x l ih =>
    intro i m s s' hd hi I J hr
    have hi' : i < h.length := by
      rcases Nat.lt_or_ge i h.length with h' | h'
      · exact h'
      · rw [List.drop_of_length_le h'] at hd; cases hd
    have hdrop := List.drop_eq_getElem_cons hi'
    rw [hd] at hdrop
    obtain ⟨hx, hl⟩ := List.cons.inj hdrop
    have hg : h.getD i default = x := by simp [List.getD_eq_getElem?_getD, hi', ← hx]
    simp only [rrun] at hr
    cases hst : rstep i x s with
    | none => rw [hst] at hr; cases hr
    | some s1 =>
      rw [hst, Option.bind_some] at hr
      have hm : ∃ m1, mstep x m = some m1 := by
        obtain ⟨out, ms⟩ := s
        obtain ⟨w0, w1, hc⟩ := rstep_cases I hst
        have hon := J.on x.who.toNat (by omega)
        have e : ((x.who.toNat : Nat) : Int) = x.who := by omega
        rw [e] at hon
        rcases hc with ⟨hret, hnone, hop, hans, rfl⟩ | ⟨hret, k0, hk0, hg0, hwho, hfin, hop, rfl⟩
        · simp only [hnone] at hon
          refine ⟨(m.1.set x.who.toNat (!x.ret), m.2.set x.who.toNat x.op), ?_⟩
          rw [mstep, if_neg, if_neg]
          · simp [hret, hop, hans]
          · rintro (h1 | h1 | h1)
            · omega
            · omega
            · exact h1 (by rw [hret, hon]; rfl)
        · simp only [hg0] at hon
          have hjo := J.op x.who.toNat k0 (by omega) (by rw [e]; exact hg0)
          simp only at hjo
          refine ⟨(m.1.set x.who.toNat (!x.ret), m.2.set x.who.toNat x.op), ?_⟩
          rw [mstep, if_neg, if_neg]
          · rintro (⟨h1, -⟩ | ⟨-, h1⟩)
            · rw [hret] at h1
              cases h1
            · exact h1 (by rw [← hjo, hop])
          · rintro (h1 | h1 | h1)
            · omega
            · omega
            · exact h1 (by rw [hret, hon]; rfl)
      obtain ⟨m1, hm⟩ := hm
      obtain ⟨s2, h2, J2⟩ := MInv.step I J hm
      rw [hst] at h2
      cases h2
      obtain ⟨m', h3⟩ := ih (i + 1) m1 s1 s' hl.symm (by omega) (I.step hi' (by rw [hg]; exact hst)) J2 hr
      exact ⟨m', by rw [mrun, hm, Option.bind_some]; exact h3⟩
theorem mayP_eq (h : List Evt) : mayP h = okP h := by
  rw [Bool.eq_iff_iff]
  refine ⟨okP_of_mayP, fun hok => ?_⟩
  obtain ⟨ms, hr, _⟩ := okP_inv hok
  obtain ⟨m', hm⟩ := rrun_mrun 0 _ _ _ rfl (Nat.zero_le _) (HInv.zero h) minv0 hr
  rw [List.drop_zero] at hm
  rw [mayP, hm]
  rfl
end Go.X
set_option linter.unusedVariables false
set_option linter.unusedSimpArgs false
set_option maxHeartbeats 20000000
set_option maxRecDepth 100000
namespace Go.X
open Go.Proofs.Tryd (prog)

theorem beforeR_spec (c d : Cl) (M : Mem) : XCalls Go.Proofs.Tryd.prog 45 [.agg c.row, .agg d.row] M fun r M' => r = .l (.bool (decide (0 ≤ c.fin) && decide (c.fin < d.beg))) ∧ M' = M := by
  refine xcalls_intro (rs := [.tmp 4]) Go.Proofs.Tryd.func45 rfl (by kernel_rfl) rfl rfl (by kernel_rfl) (by simp) ?_
  simp -implicitDefEqProofs (maxSteps := 1000000) (disch := omega) only [↓xsP, ↓vc_seq, xsQ, xsT, xsR, xsD, ↓reduceIte, reduceCtorEq, eq_self, ne_eq, imp_self, forall_const, Nat.reduceEqDiff, Nat.reduceAdd, Nat.reduceSub, Nat.reduceMul, Nat.reduceLT, Nat.reduceLeDiff, Nat.reduceBEq, Nat.reduceDiv, Nat.reduceMod, Int.reduceToNat, Int.reduceNeg, Int.reduceAdd, Int.reduceSub, Int.reduceMul, Int.reduceEq, Int.reduceNe, Int.reduceLT, Int.reduceLE, Int.reduceGT, Int.reduceGE]
  refine newI_intro fun id1 hid1 => ?_
  simp -implicitDefEqProofs (maxSteps := 1000000) (disch := omega) only [↓xsP, ↓vc_seq, xsQ, xsT, xsR, xsD, ↓reduceIte, reduceCtorEq, eq_self, ne_eq, imp_self, forall_const, Nat.reduceEqDiff, Nat.reduceAdd, Nat.reduceSub, Nat.reduceMul, Nat.reduceLT, Nat.reduceLeDiff, Nat.reduceBEq, Nat.reduceDiv, Nat.reduceMod, Int.reduceToNat, Int.reduceNeg, Int.reduceAdd, Int.reduceSub, Int.reduceMul, Int.reduceEq, Int.reduceNe, Int.reduceLT, Int.reduceLE, Int.reduceGT, Int.reduceGE]
  refine newI_intro fun id2 hid2 => ?_
  obtain ⟨h12, hid2⟩ := bnd_new hid2
  simp -implicitDefEqProofs (maxSteps := 1000000) (disch := omega) only [↓xsP, ↓vc_seq, xsQ, xsT, xsR, xsD, ↓reduceIte, reduceCtorEq, eq_self, ne_eq, imp_self, forall_const, Nat.reduceEqDiff, Nat.reduceAdd, Nat.reduceSub, Nat.reduceMul, Nat.reduceLT, Nat.reduceLeDiff, Nat.reduceBEq, Nat.reduceDiv, Nat.reduceMod, Int.reduceToNat, Int.reduceNeg, Int.reduceAdd, Int.reduceSub, Int.reduceMul, Int.reduceEq, Int.reduceNe, Int.reduceLT, Int.reduceLE, Int.reduceGT, Int.reduceGE]
  refine gI_prop (fun h => ?_) (fun h => ?_)
  · simp -implicitDefEqProofs (maxSteps := 1000000) (disch := omega) only [↓xsP, ↓vc_seq, xsQ, xsT, xsR, xsD, ↓reduceIte, reduceCtorEq, eq_self, ne_eq, imp_self, forall_const, Nat.reduceEqDiff, Nat.reduceAdd, Nat.reduceSub, Nat.reduceMul, Nat.reduceLT, Nat.reduceLeDiff, Nat.reduceBEq, Nat.reduceDiv, Nat.reduceMod, Int.reduceToNat, Int.reduceNeg, Int.reduceAdd, Int.reduceSub, Int.reduceMul, Int.reduceEq, Int.reduceNe, Int.reduceLT, Int.reduceLE, Int.reduceGT, Int.reduceGE, h]
    exact fin_ok (le_new (le_new (Mem.le_refl _) hid1) hid2) ⟨by rw [decide_eq_true (show 0 ≤ c.fin from h)]; rfl, rfl⟩
  · simp -implicitDefEqProofs (maxSteps := 1000000) (disch := omega) only [↓xsP, ↓vc_seq, xsQ, xsT, xsR, xsD, ↓reduceIte, reduceCtorEq, eq_self, ne_eq, imp_self, forall_const, Nat.reduceEqDiff, Nat.reduceAdd, Nat.reduceSub, Nat.reduceMul, Nat.reduceLT, Nat.reduceLeDiff, Nat.reduceBEq, Nat.reduceDiv, Nat.reduceMod, Int.reduceToNat, Int.reduceNeg, Int.reduceAdd, Int.reduceSub, Int.reduceMul, Int.reduceEq, Int.reduceNe, Int.reduceLT, Int.reduceLE, Int.reduceGT, Int.reduceGE, h]
    exact fin_ok (le_new (le_new (Mem.le_refl _) hid1) hid2) ⟨by rw [decide_eq_false (show ¬ 0 ≤ c.fin from h)]; rfl, rfl⟩
def refB (c : Cl) : Bool := decide (0 ≤ c.fin) && !decide (c.ans.err = 0)
theorem refused_spec (c : Cl) (M : Mem) : XCalls Go.Proofs.Tryd.prog 43 [.agg c.row] M fun r M' => r = .l (.bool (refB c)) ∧ M' = M := by
  refine xcalls_intro (rs := [.tmp 2]) Go.Proofs.Tryd.func43 rfl (by kernel_rfl) rfl rfl (by kernel_rfl) (by simp) ?_
  simp -implicitDefEqProofs (maxSteps := 1000000) (disch := omega) only [↓xsP, ↓vc_seq, xsQ, xsT, xsR, xsD, ↓reduceIte, reduceCtorEq, eq_self, ne_eq, imp_self, forall_const, Nat.reduceEqDiff, Nat.reduceAdd, Nat.reduceSub, Nat.reduceMul, Nat.reduceLT, Nat.reduceLeDiff, Nat.reduceBEq, Nat.reduceDiv, Nat.reduceMod, Int.reduceToNat, Int.reduceNeg, Int.reduceAdd, Int.reduceSub, Int.reduceMul, Int.reduceEq, Int.reduceNe, Int.reduceLT, Int.reduceLE, Int.reduceGT, Int.reduceGE]
  refine newI_intro fun id1 hid1 => ?_
  simp -implicitDefEqProofs (maxSteps := 1000000) (disch := omega) only [↓xsP, ↓vc_seq, xsQ, xsT, xsR, xsD, ↓reduceIte, reduceCtorEq, eq_self, ne_eq, imp_self, forall_const, Nat.reduceEqDiff, Nat.reduceAdd, Nat.reduceSub, Nat.reduceMul, Nat.reduceLT, Nat.reduceLeDiff, Nat.reduceBEq, Nat.reduceDiv, Nat.reduceMod, Int.reduceToNat, Int.reduceNeg, Int.reduceAdd, Int.reduceSub, Int.reduceMul, Int.reduceEq, Int.reduceNe, Int.reduceLT, Int.reduceLE, Int.reduceGT, Int.reduceGE]
  refine gI_prop (fun h => ?_) (fun h => ?_)
  · simp -implicitDefEqProofs (maxSteps := 1000000) (disch := omega) only [↓xsP, ↓vc_seq, xsQ, xsT, xsR, xsD, ↓reduceIte, reduceCtorEq, eq_self, ne_eq, imp_self, forall_const, Nat.reduceEqDiff, Nat.reduceAdd, Nat.reduceSub, Nat.reduceMul, Nat.reduceLT, Nat.reduceLeDiff, Nat.reduceBEq, Nat.reduceDiv, Nat.reduceMod, Int.reduceToNat, Int.reduceNeg, Int.reduceAdd, Int.reduceSub, Int.reduceMul, Int.reduceEq, Int.reduceNe, Int.reduceLT, Int.reduceLE, Int.reduceGT, Int.reduceGE, h]
    exact fin_ok (le_new (Mem.le_refl _) hid1) ⟨by rw [refB, decide_eq_true (show 0 ≤ c.fin from h), Bool.true_and, decide_not], rfl⟩
  · simp -implicitDefEqProofs (maxSteps := 1000000) (disch := omega) only [↓xsP, ↓vc_seq, xsQ, xsT, xsR, xsD, ↓reduceIte, reduceCtorEq, eq_self, ne_eq, imp_self, forall_const, Nat.reduceEqDiff, Nat.reduceAdd, Nat.reduceSub, Nat.reduceMul, Nat.reduceLT, Nat.reduceLeDiff, Nat.reduceBEq, Nat.reduceDiv, Nat.reduceMod, Int.reduceToNat, Int.reduceNeg, Int.reduceAdd, Int.reduceSub, Int.reduceMul, Int.reduceEq, Int.reduceNe, Int.reduceLT, Int.reduceLE, Int.reduceGT, Int.reduceGE, h]
    exact fin_ok (le_new (Mem.le_refl _) hid1) ⟨by rw [refB, decide_eq_false (show ¬ 0 ≤ c.fin from h)]; rfl, rfl⟩

theorem step_end1 {M B : Mem} {idA : Nat} {T : TypeId} {rows rows' : List (List Lf)} (hA : B idA = some (.cells T rows 0)) (hold : ∀ j b, j ≠ idA → M j = some b → B j = some b)
    (hr : rows.map (fun r => r.map wkL) = rows') : GStep B (M.set idA (.cells T rows' 0)) := by
  subst hr
  refine GStep.trans (GStep.wk hA) (GStep.le fun j b hj => ?_)
  rw [Mem.set_app] at hj ⊢
  by_cases e : idA = j
  · rw [if_pos e] at hj ⊢
    exact hj
  · rw [if_neg e] at hj ⊢
    exact hold j b (fun h => e h.symm) hj
theorem callsR_spec (h : List Evt) (hs : Small h) (M : Mem) : XCalls Go.Proofs.Tryd.prog 29 [.l (.sl (h.map Evt.row))] M fun r M' => r = .l (.sl ((callsP h).map Cl.row)) ∧ M' = M := by
  refine xcalls_intro (rs := [.tmp 2]) Go.Proofs.Tryd.func29 rfl (by kernel_rfl) rfl rfl (by kernel_rfl) (by simp) ?_
  have hs1 := hs.1
  simp -implicitDefEqProofs (maxSteps := 1000000) (disch := omega) only [↓xsP, ↓vc_seq, xsQ, xsT, xsR, xsD, ↓reduceIte, reduceCtorEq, eq_self, ne_eq, imp_self, forall_const, Nat.reduceEqDiff, Nat.reduceAdd, Nat.reduceSub, Nat.reduceMul, Nat.reduceLT, Nat.reduceLeDiff, Nat.reduceBEq, Nat.reduceDiv, Nat.reduceMod, Int.reduceToNat, Int.reduceNeg, Int.reduceAdd, Int.reduceSub, Int.reduceMul, Int.reduceEq, Int.reduceNe, Int.reduceLT, Int.reduceLE, Int.reduceGT, Int.reduceGE]
  refine call_of (mayPast_spec h hs _) ?_
  rw [mayP_eq]
  cases hok : okP h with
  | false =>
    simp -implicitDefEqProofs (maxSteps := 1000000) (disch := omega) only [↓xsP, ↓vc_seq, xsQ, xsT, xsR, xsD, ↓reduceIte, reduceCtorEq, eq_self, ne_eq, imp_self, forall_const, Nat.reduceEqDiff, Nat.reduceAdd, Nat.reduceSub, Nat.reduceMul, Nat.reduceLT, Nat.reduceLeDiff, Nat.reduceBEq, Nat.reduceDiv, Nat.reduceMod, Int.reduceToNat, Int.reduceNeg, Int.reduceAdd, Int.reduceSub, Int.reduceMul, Int.reduceEq, Int.reduceNe, Int.reduceLT, Int.reduceLE, Int.reduceGT, Int.reduceGE]
    have hc : callsP h = [] := by
      unfold okP at hok
      unfold callsP
      cases hr : readP h with
      | none => rfl
      | some s => rw [hr] at hok; cases hok
    refine finI_of (XFin.wk (XFin.here ⟨?_, rfl⟩))
    rw [hc]
    rfl
  | true =>
    have hce := calR_eq hok
    simp -implicitDefEqProofs (maxSteps := 1000000) (disch := omega) only [↓xsP, ↓vc_seq, xsQ, xsT, xsR, xsD, ↓reduceIte, reduceCtorEq, eq_self, ne_eq, imp_self, forall_const, Nat.reduceEqDiff, Nat.reduceAdd, Nat.reduceSub, Nat.reduceMul, Nat.reduceLT, Nat.reduceLeDiff, Nat.reduceBEq, Nat.reduceDiv, Nat.reduceMod, Int.reduceToNat, Int.reduceNeg, Int.reduceAdd, Int.reduceSub, Int.reduceMul, Int.reduceEq, Int.reduceNe, Int.reduceLT, Int.reduceLE, Int.reduceGT, Int.reduceGE]
    refine xloopG (by kernel_rfl) (fun k fr M' => ∃ (i : Nat) (out : List Cl), i ≤ h.length ∧ k = h.length - i ∧ fr 10 = .l (.sl (h.map Evt.row)) ∧ fr 11 = .l (.int .i64 h.length) ∧ fr 12 = .l (.int .i64 i) ∧
      crun h 0 [] = crun (h.drop i) i out ∧ out.length ≤ i ∧
      ((out = [] ∧ fr 3 = .l .nils ∧ M' = M) ∨ ∃ idO, (∀ j, idO ≤ j → M j = none) ∧ fr 3 = .l (.ms idO 0 out.length) ∧ M' = M.set idO (.cells 77 (out.map Cl.row) 0))) h.length ?_ ?_
    · exact ⟨0, [], Nat.zero_le _, rfl, by simp -implicitDefEqProofs (maxSteps := 1000000) (disch := omega) only [↓xsP, ↓vc_seq, xsQ, xsT, xsR, xsD, ↓reduceIte, reduceCtorEq, eq_self, ne_eq, imp_self, forall_const, Nat.reduceEqDiff, Nat.reduceAdd, Nat.reduceSub, Nat.reduceMul, Nat.reduceLT, Nat.reduceLeDiff, Nat.reduceBEq, Nat.reduceDiv, Nat.reduceMod, Int.reduceToNat, Int.reduceNeg, Int.reduceAdd, Int.reduceSub, Int.reduceMul, Int.reduceEq, Int.reduceNe, Int.reduceLT, Int.reduceLE, Int.reduceGT, Int.reduceGE], by simp -implicitDefEqProofs (maxSteps := 1000000) (disch := omega) only [↓xsP, ↓vc_seq, xsQ, xsT, xsR, xsD, ↓reduceIte, reduceCtorEq, eq_self, ne_eq, imp_self, forall_const, Nat.reduceEqDiff, Nat.reduceAdd, Nat.reduceSub, Nat.reduceMul, Nat.reduceLT, Nat.reduceLeDiff, Nat.reduceBEq, Nat.reduceDiv, Nat.reduceMod, Int.reduceToNat, Int.reduceNeg, Int.reduceAdd, Int.reduceSub, Int.reduceMul, Int.reduceEq, Int.reduceNe, Int.reduceLT, Int.reduceLE, Int.reduceGT, Int.reduceGE], by simp -implicitDefEqProofs (maxSteps := 1000000) (disch := omega) only [↓xsP, ↓vc_seq, xsQ, xsT, xsR, xsD, ↓reduceIte, reduceCtorEq, eq_self, ne_eq, imp_self, forall_const, Nat.reduceEqDiff, Nat.reduceAdd, Nat.reduceSub, Nat.reduceMul, Nat.reduceLT, Nat.reduceLeDiff, Nat.reduceBEq, Nat.reduceDiv, Nat.reduceMod, Int.reduceToNat, Int.reduceNeg, Int.reduceAdd, Int.reduceSub, Int.reduceMul, Int.reduceEq, Int.reduceNe, Int.reduceLT, Int.reduceLE, Int.reduceGT, Int.reduceGE, Int.cast_ofNat_Int], rfl, Nat.le_refl _, .inl ⟨rfl, by simp -implicitDefEqProofs (maxSteps := 1000000) (disch := omega) only [↓xsP, ↓vc_seq, xsQ, xsT, xsR, xsD, ↓reduceIte, reduceCtorEq, eq_self, ne_eq, imp_self, forall_const, Nat.reduceEqDiff, Nat.reduceAdd, Nat.reduceSub, Nat.reduceMul, Nat.reduceLT, Nat.reduceLeDiff, Nat.reduceBEq, Nat.reduceDiv, Nat.reduceMod, Int.reduceToNat, Int.reduceNeg, Int.reduceAdd, Int.reduceSub, Int.reduceMul, Int.reduceEq, Int.reduceNe, Int.reduceLT, Int.reduceLE, Int.reduceGT, Int.reduceGE], rfl⟩⟩
    · rintro k fr M' ⟨i, out, hi, rfl, h10, h11, h12, hrun, hlen, hmem⟩
      simp -implicitDefEqProofs (maxSteps := 1000000) (disch := omega) only [↓xsP, ↓vc_seq, xsQ, xsT, xsR, xsD, ↓reduceIte, reduceCtorEq, eq_self, ne_eq, imp_self, forall_const, Nat.reduceEqDiff, Nat.reduceAdd, Nat.reduceSub, Nat.reduceMul, Nat.reduceLT, Nat.reduceLeDiff, Nat.reduceBEq, Nat.reduceDiv, Nat.reduceMod, Int.reduceToNat, Int.reduceNeg, Int.reduceAdd, Int.reduceSub, Int.reduceMul, Int.reduceEq, Int.reduceNe, Int.reduceLT, Int.reduceLE, Int.reduceGT, Int.reduceGE, h10, h11, h12]
      refine condI_prop (fun hlt => ?_) (fun hlt => ?_)
      · have hi' : i < h.length := by omega
        simp -implicitDefEqProofs (maxSteps := 1000000) (disch := omega) only [↓xsP, ↓vc_seq, xsQ, xsT, xsR, xsD, ↓reduceIte, reduceCtorEq, eq_self, ne_eq, imp_self, forall_const, Nat.reduceEqDiff, Nat.reduceAdd, Nat.reduceSub, Nat.reduceMul, Nat.reduceLT, Nat.reduceLeDiff, Nat.reduceBEq, Nat.reduceDiv, Nat.reduceMod, Int.reduceToNat, Int.reduceNeg, Int.reduceAdd, Int.reduceSub, Int.reduceMul, Int.reduceEq, Int.reduceNe, Int.reduceLT, Int.reduceLE, Int.reduceGT, Int.reduceGE, h10, h11, h12]
        refine newI_intro fun id5 hid5 => ?_
        simp -implicitDefEqProofs (maxSteps := 1000000) (disch := omega) only [↓xsP, ↓vc_seq, xsQ, xsT, xsR, xsD, ↓reduceIte, reduceCtorEq, eq_self, ne_eq, imp_self, forall_const, Nat.reduceEqDiff, Nat.reduceAdd, Nat.reduceSub, Nat.reduceMul, Nat.reduceLT, Nat.reduceLeDiff, Nat.reduceBEq, Nat.reduceDiv, Nat.reduceMod, Int.reduceToNat, Int.reduceNeg, Int.reduceAdd, Int.reduceSub, Int.reduceMul, Int.reduceEq, Int.reduceNe, Int.reduceLT, Int.reduceLE, Int.reduceGT, Int.reduceGE, h10, h11, h12]
        have hd : h.drop i = h.getD i default :: h.drop (i + 1) := by
          rw [List.drop_eq_getElem_cons hi', List.getD_eq_getElem?_getD, List.getElem?_eq_getElem hi', Option.getD_some]
        rw [hd, crun] at hrun
        generalize h.getD i default = x at hrun ⊢
        cases hret : x.ret with
        | false =>
          rw [cstep, if_pos hret] at hrun
          rcases hmem with ⟨ho, h3, hM'⟩ | ⟨idO, hidO, h3, hM'⟩
          · subst ho
            simp -implicitDefEqProofs (maxSteps := 1000000) (disch := omega) only [↓xsP, ↓vc_seq, xsQ, xsT, xsR, xsD, ↓reduceIte, reduceCtorEq, eq_self, ne_eq, imp_self, forall_const, Nat.reduceEqDiff, Nat.reduceAdd, Nat.reduceSub, Nat.reduceMul, Nat.reduceLT, Nat.reduceLeDiff, Nat.reduceBEq, Nat.reduceDiv, Nat.reduceMod, Int.reduceToNat, Int.reduceNeg, Int.reduceAdd, Int.reduceSub, Int.reduceMul, Int.reduceEq, Int.reduceNe, Int.reduceLT, Int.reduceLE, Int.reduceGT, Int.reduceGE, h10, h11, h12, h3]
            refine newI_intro fun idn hidn => ?_
            obtain ⟨h7n, hidn⟩ := bnd_new hidn
            simp -implicitDefEqProofs (maxSteps := 1000000) (disch := omega) only [↓xsP, ↓vc_seq, xsQ, xsT, xsR, xsD, ↓reduceIte, reduceCtorEq, eq_self, ne_eq, imp_self, forall_const, Nat.reduceEqDiff, Nat.reduceAdd, Nat.reduceSub, Nat.reduceMul, Nat.reduceLT, Nat.reduceLeDiff, Nat.reduceBEq, Nat.reduceDiv, Nat.reduceMod, Int.reduceToNat, Int.reduceNeg, Int.reduceAdd, Int.reduceSub, Int.reduceMul, Int.reduceEq, Int.reduceNe, Int.reduceLT, Int.reduceLE, Int.reduceGT, Int.reduceGE, h10, h11, h12, h3]
            refine app_nils _ _ _ _ 77 _ _ ti_54 rfl ti_77 (by kernel_rfl) (by decide) _ [openRow x i] ?_ ?_ ?_ ?_ ?_
            · simp -implicitDefEqProofs (maxSteps := 1000000) (disch := omega) only [↓xsP, ↓vc_seq, xsQ, xsT, xsR, xsD, ↓reduceIte, reduceCtorEq, eq_self, ne_eq, imp_self, forall_const, Nat.reduceEqDiff, Nat.reduceAdd, Nat.reduceSub, Nat.reduceMul, Nat.reduceLT, Nat.reduceLeDiff, Nat.reduceBEq, Nat.reduceDiv, Nat.reduceMod, Int.reduceToNat, Int.reduceNeg, Int.reduceAdd, Int.reduceSub, Int.reduceMul, Int.reduceEq, Int.reduceNe, Int.reduceLT, Int.reduceLE, Int.reduceGT, Int.reduceGE, openRow]
            · simp
            · simp
            · simp
            · intro _ idA hidA
              obtain ⟨hnA, hidA⟩ := bnd_new hidA
              obtain ⟨_, hidA'⟩ := bnd_new hidA
              simp -implicitDefEqProofs (maxSteps := 1000000) (disch := omega) only [↓xsP, ↓vc_seq, xsQ, xsT, xsR, xsD, ↓reduceIte, reduceCtorEq, eq_self, ne_eq, imp_self, forall_const, Nat.reduceEqDiff, Nat.reduceAdd, Nat.reduceSub, Nat.reduceMul, Nat.reduceLT, Nat.reduceLeDiff, Nat.reduceBEq, Nat.reduceDiv, Nat.reduceMod, Int.reduceToNat, Int.reduceNeg, Int.reduceAdd, Int.reduceSub, Int.reduceMul, Int.reduceEq, Int.reduceNe, Int.reduceLT, Int.reduceLE, Int.reduceGT, Int.reduceGE, h10, h11, h12, h3]
              refine ⟨h.length - (i + 1), M.set idA (.cells 77 (([] ++ [⟨x.who, i, -1, x.op, ans0⟩] : List Cl).map Cl.row) 0), by omega, ?_, i + 1, [] ++ [⟨x.who, i, -1, x.op, ans0⟩], by omega, rfl, by simp, hrun, by simp, .inr ⟨idA, by rw [← hM']; exact hidA', by simp, rfl⟩⟩
              refine step_end1 (Mem.set_eq _ _ _) (fun j b hj hb => ?_) (rows := [openRow x i]) (by simp [open_wk])
              have := lt_of_bnd hid5 (by rw [hM']; exact hb)
              rw [Mem.set_ne _ _ _ _ (by omega), Mem.set_ne _ _ _ _ (by omega), Mem.set_ne _ _ _ _ (by omega), hM']
              exact hb
          · have hMO : M' idO = some (.cells 77 (out.map Cl.row) 0) := by rw [hM']; exact Mem.set_eq _ _ _
            have h7O : idO < id5 := lt_of_bnd hid5 hMO
            simp -implicitDefEqProofs (maxSteps := 1000000) (disch := omega) only [↓xsP, ↓vc_seq, xsQ, xsT, xsR, xsD, ↓reduceIte, reduceCtorEq, eq_self, ne_eq, imp_self, forall_const, Nat.reduceEqDiff, Nat.reduceAdd, Nat.reduceSub, Nat.reduceMul, Nat.reduceLT, Nat.reduceLeDiff, Nat.reduceBEq, Nat.reduceDiv, Nat.reduceMod, Int.reduceToNat, Int.reduceNeg, Int.reduceAdd, Int.reduceSub, Int.reduceMul, Int.reduceEq, Int.reduceNe, Int.reduceLT, Int.reduceLE, Int.reduceGT, Int.reduceGE, h10, h11, h12, h3]
            refine newI_intro fun idn hidn => ?_
            obtain ⟨h7n, hidn⟩ := bnd_new hidn
            simp -implicitDefEqProofs (maxSteps := 1000000) (disch := omega) only [↓xsP, ↓vc_seq, xsQ, xsT, xsR, xsD, ↓reduceIte, reduceCtorEq, eq_self, ne_eq, imp_self, forall_const, Nat.reduceEqDiff, Nat.reduceAdd, Nat.reduceSub, Nat.reduceMul, Nat.reduceLT, Nat.reduceLeDiff, Nat.reduceBEq, Nat.reduceDiv, Nat.reduceMod, Int.reduceToNat, Int.reduceNeg, Int.reduceAdd, Int.reduceSub, Int.reduceMul, Int.reduceEq, Int.reduceNe, Int.reduceLT, Int.reduceLE, Int.reduceGT, Int.reduceGE, h10, h11, h12, h3]
            refine app_ms _ _ _ _ 77 _ _ ti_54 rfl ti_77 (by kernel_rfl) (by decide) idO out.length _ (rows := out.map Cl.row) (keep := 0) [openRow x i] ?_ ?_ ?_ (Nat.zero_le _) ?_ ?_ ?_
            · rw [Mem.set_ne _ _ _ _ (by omega), Mem.set_ne _ _ _ _ (by omega)]
              exact hMO
            · simp -implicitDefEqProofs (maxSteps := 1000000) (disch := omega) only [↓xsP, ↓vc_seq, xsQ, xsT, xsR, xsD, ↓reduceIte, reduceCtorEq, eq_self, ne_eq, imp_self, forall_const, Nat.reduceEqDiff, Nat.reduceAdd, Nat.reduceSub, Nat.reduceMul, Nat.reduceLT, Nat.reduceLeDiff, Nat.reduceBEq, Nat.reduceDiv, Nat.reduceMod, Int.reduceToNat, Int.reduceNeg, Int.reduceAdd, Int.reduceSub, Int.reduceMul, Int.reduceEq, Int.reduceNe, Int.reduceLT, Int.reduceLE, Int.reduceGT, Int.reduceGE, openRow]
            · simp
            · exact Nat.le_trans (Nat.mul_le_mul_right _ (show out.length + [openRow x i].length ≤ 1000001 by simp; omega)) (by decide)
            · simp
              omega
            · intro idA hidA
              obtain ⟨hnA, hidA⟩ := bnd_new hidA
              obtain ⟨_, hidA'⟩ := bnd_new hidA
              rw [hM'] at hidA'
              obtain ⟨hOA, hidA'⟩ := bnd_new hidA'
              simp -implicitDefEqProofs (maxSteps := 1000000) (disch := omega) only [↓xsP, ↓vc_seq, xsQ, xsT, xsR, xsD, ↓reduceIte, reduceCtorEq, eq_self, ne_eq, imp_self, forall_const, Nat.reduceEqDiff, Nat.reduceAdd, Nat.reduceSub, Nat.reduceMul, Nat.reduceLT, Nat.reduceLeDiff, Nat.reduceBEq, Nat.reduceDiv, Nat.reduceMod, Int.reduceToNat, Int.reduceNeg, Int.reduceAdd, Int.reduceSub, Int.reduceMul, Int.reduceEq, Int.reduceNe, Int.reduceLT, Int.reduceLE, Int.reduceGT, Int.reduceGE, h10, h11, h12, h3]
              refine ⟨h.length - (i + 1), M.set idA (.cells 77 ((out ++ [⟨x.who, i, -1, x.op, ans0⟩] : List Cl).map Cl.row) 0), by omega, ?_, i + 1, out ++ [⟨x.who, i, -1, x.op, ans0⟩], by omega, rfl, by simp, hrun, by simp; omega, .inr ⟨idA, hidA', by simp, rfl⟩⟩
              refine step_end1 (Mem.set_eq _ _ _) (fun j b hj hb => ?_) (rows := (out.map Cl.row).take out.length ++ [openRow x i]) ?_
              · have := lt_of_bnd hidO hb
                rw [Mem.set_ne _ _ _ _ (by omega), Mem.del_ne _ _ _ (by omega), Mem.set_ne _ _ _ _ (by omega), Mem.set_ne _ _ _ _ (by omega), hM', Mem.set_ne _ _ _ _ (by omega)]
                exact hb
              · rw [List.take_of_length_le (by simp), List.map_append, cls_wk, List.map_append]
                simp [open_wk]
        | true =>
          rw [cstep, if_neg (by simp [hret])] at hrun
          simp -implicitDefEqProofs (maxSteps := 1000000) (disch := omega) only [↓xsP, ↓vc_seq, xsQ, xsT, xsR, xsD, ↓reduceIte, reduceCtorEq, eq_self, ne_eq, imp_self, forall_const, Nat.reduceEqDiff, Nat.reduceAdd, Nat.reduceSub, Nat.reduceMul, Nat.reduceLT, Nat.reduceLeDiff, Nat.reduceBEq, Nat.reduceDiv, Nat.reduceMod, Int.reduceToNat, Int.reduceNeg, Int.reduceAdd, Int.reduceSub, Int.reduceMul, Int.reduceEq, Int.reduceNe, Int.reduceLT, Int.reduceLE, Int.reduceGT, Int.reduceGE, h10, h11, h12]
          rcases hmem with ⟨ho, h3, hM'⟩ | ⟨idO, hidO, h3, hM'⟩
          · subst ho
            simp -implicitDefEqProofs (maxSteps := 1000000) (disch := omega) only [↓xsP, ↓vc_seq, xsQ, xsT, xsR, xsD, ↓reduceIte, reduceCtorEq, eq_self, ne_eq, imp_self, forall_const, Nat.reduceEqDiff, Nat.reduceAdd, Nat.reduceSub, Nat.reduceMul, Nat.reduceLT, Nat.reduceLeDiff, Nat.reduceBEq, Nat.reduceDiv, Nat.reduceMod, Int.reduceToNat, Int.reduceNeg, Int.reduceAdd, Int.reduceSub, Int.reduceMul, Int.reduceEq, Int.reduceNe, Int.reduceLT, Int.reduceLE, Int.reduceGT, Int.reduceGE, h10, h11, h12, h3]
            have hrun' : crun h 0 [] = crun (h.drop (i + 1)) (i + 1) [] := hrun
            refine loopI_of (xloop (by kernel_rfl) (fun k fr M2 => k = 0 ∧ fr 3 = .l .nils ∧ fr 6 = .l (.int .i64 (-1)) ∧ fr 10 = .l (.sl (h.map Evt.row)) ∧ fr 11 = .l (.int .i64 h.length) ∧ fr 12 = .l (.int .i64 i) ∧ M2 = M'.set id5 (.cells 36 [x.row] 0)) 0 ?_ ?_)
            · exact ⟨rfl, by simp -implicitDefEqProofs (maxSteps := 1000000) (disch := omega) only [↓xsP, ↓vc_seq, xsQ, xsT, xsR, xsD, ↓reduceIte, reduceCtorEq, eq_self, ne_eq, imp_self, forall_const, Nat.reduceEqDiff, Nat.reduceAdd, Nat.reduceSub, Nat.reduceMul, Nat.reduceLT, Nat.reduceLeDiff, Nat.reduceBEq, Nat.reduceDiv, Nat.reduceMod, Int.reduceToNat, Int.reduceNeg, Int.reduceAdd, Int.reduceSub, Int.reduceMul, Int.reduceEq, Int.reduceNe, Int.reduceLT, Int.reduceLE, Int.reduceGT, Int.reduceGE, h3], by simp -implicitDefEqProofs (maxSteps := 1000000) (disch := omega) only [↓xsP, ↓vc_seq, xsQ, xsT, xsR, xsD, ↓reduceIte, reduceCtorEq, eq_self, ne_eq, imp_self, forall_const, Nat.reduceEqDiff, Nat.reduceAdd, Nat.reduceSub, Nat.reduceMul, Nat.reduceLT, Nat.reduceLeDiff, Nat.reduceBEq, Nat.reduceDiv, Nat.reduceMod, Int.reduceToNat, Int.reduceNeg, Int.reduceAdd, Int.reduceSub, Int.reduceMul, Int.reduceEq, Int.reduceNe, Int.reduceLT, Int.reduceLE, Int.reduceGT, Int.reduceGE], by simp -implicitDefEqProofs (maxSteps := 1000000) (disch := omega) only [↓xsP, ↓vc_seq, xsQ, xsT, xsR, xsD, ↓reduceIte, reduceCtorEq, eq_self, ne_eq, imp_self, forall_const, Nat.reduceEqDiff, Nat.reduceAdd, Nat.reduceSub, Nat.reduceMul, Nat.reduceLT, Nat.reduceLeDiff, Nat.reduceBEq, Nat.reduceDiv, Nat.reduceMod, Int.reduceToNat, Int.reduceNeg, Int.reduceAdd, Int.reduceSub, Int.reduceMul, Int.reduceEq, Int.reduceNe, Int.reduceLT, Int.reduceLE, Int.reduceGT, Int.reduceGE, h10], by simp -implicitDefEqProofs (maxSteps := 1000000) (disch := omega) only [↓xsP, ↓vc_seq, xsQ, xsT, xsR, xsD, ↓reduceIte, reduceCtorEq, eq_self, ne_eq, imp_self, forall_const, Nat.reduceEqDiff, Nat.reduceAdd, Nat.reduceSub, Nat.reduceMul, Nat.reduceLT, Nat.reduceLeDiff, Nat.reduceBEq, Nat.reduceDiv, Nat.reduceMod, Int.reduceToNat, Int.reduceNeg, Int.reduceAdd, Int.reduceSub, Int.reduceMul, Int.reduceEq, Int.reduceNe, Int.reduceLT, Int.reduceLE, Int.reduceGT, Int.reduceGE, h11], by simp -implicitDefEqProofs (maxSteps := 1000000) (disch := omega) only [↓xsP, ↓vc_seq, xsQ, xsT, xsR, xsD, ↓reduceIte, reduceCtorEq, eq_self, ne_eq, imp_self, forall_const, Nat.reduceEqDiff, Nat.reduceAdd, Nat.reduceSub, Nat.reduceMul, Nat.reduceLT, Nat.reduceLeDiff, Nat.reduceBEq, Nat.reduceDiv, Nat.reduceMod, Int.reduceToNat, Int.reduceNeg, Int.reduceAdd, Int.reduceSub, Int.reduceMul, Int.reduceEq, Int.reduceNe, Int.reduceLT, Int.reduceLE, Int.reduceGT, Int.reduceGE, h12], by rw [row_evt, hret]⟩
            · clear h10 h11 h12 h3
              rintro k fr M2 ⟨rfl, h3, h6, h10, h11, h12, rfl⟩
              simp -implicitDefEqProofs (maxSteps := 1000000) (disch := omega) only [↓xsP, ↓vc_seq, xsQ, xsT, xsR, xsD, ↓reduceIte, reduceCtorEq, eq_self, ne_eq, imp_self, forall_const, Nat.reduceEqDiff, Nat.reduceAdd, Nat.reduceSub, Nat.reduceMul, Nat.reduceLT, Nat.reduceLeDiff, Nat.reduceBEq, Nat.reduceDiv, Nat.reduceMod, Int.reduceToNat, Int.reduceNeg, Int.reduceAdd, Int.reduceSub, Int.reduceMul, Int.reduceEq, Int.reduceNe, Int.reduceLT, Int.reduceLE, Int.reduceGT, Int.reduceGE, h3, h6, h10, h11, h12]
              exact ⟨h.length - (i + 1), M', by omega, GStep.le (le_new (Mem.le_refl _) hid5), i + 1, [], by omega, rfl, by simp, hrun', by simp, .inl ⟨rfl, hM'⟩⟩
          · have hMO : M' idO = some (.cells 77 (out.map Cl.row) 0) := by rw [hM']; exact Mem.set_eq _ _ _
            have h7O : idO < id5 := lt_of_bnd hid5 hMO
            simp -implicitDefEqProofs (maxSteps := 1000000) (disch := omega) only [↓xsP, ↓vc_seq, xsQ, xsT, xsR, xsD, ↓reduceIte, reduceCtorEq, eq_self, ne_eq, imp_self, forall_const, Nat.reduceEqDiff, Nat.reduceAdd, Nat.reduceSub, Nat.reduceMul, Nat.reduceLT, Nat.reduceLeDiff, Nat.reduceBEq, Nat.reduceDiv, Nat.reduceMod, Int.reduceToNat, Int.reduceNeg, Int.reduceAdd, Int.reduceSub, Int.reduceMul, Int.reduceEq, Int.reduceNe, Int.reduceLT, Int.reduceLE, Int.reduceGT, Int.reduceGE, h10, h11, h12, h3]
            have hw0 : IntKind.i64.wrap ((out.length : Int) - 1) = (out.length : Int) - 1 := wrap_in (by omega) (by omega)
            refine loopI_of (xloop (by kernel_rfl) (fun k fr M2 => k ≤ out.length ∧ fr 3 = .l (.ms idO 0 out.length) ∧ fr 4 = .l (.int .i64 i) ∧ fr 5 = .l (.ptr id5 0 0) ∧ fr 6 = .l (.int .i64 ((k : Int) - 1)) ∧ fr 10 = .l (.sl (h.map Evt.row)) ∧ fr 11 = .l (.int .i64 h.length) ∧ fr 12 = .l (.int .i64 i) ∧ M2 = M'.set id5 (.cells 36 [x.row] 0) ∧
              lastBy out x.who out.length = lastBy out x.who k) out.length ?_ ?_)
            · exact ⟨Nat.le_refl _, by simp -implicitDefEqProofs (maxSteps := 1000000) (disch := omega) only [↓xsP, ↓vc_seq, xsQ, xsT, xsR, xsD, ↓reduceIte, reduceCtorEq, eq_self, ne_eq, imp_self, forall_const, Nat.reduceEqDiff, Nat.reduceAdd, Nat.reduceSub, Nat.reduceMul, Nat.reduceLT, Nat.reduceLeDiff, Nat.reduceBEq, Nat.reduceDiv, Nat.reduceMod, Int.reduceToNat, Int.reduceNeg, Int.reduceAdd, Int.reduceSub, Int.reduceMul, Int.reduceEq, Int.reduceNe, Int.reduceLT, Int.reduceLE, Int.reduceGT, Int.reduceGE, h3], by simp -implicitDefEqProofs (maxSteps := 1000000) (disch := omega) only [↓xsP, ↓vc_seq, xsQ, xsT, xsR, xsD, ↓reduceIte, reduceCtorEq, eq_self, ne_eq, imp_self, forall_const, Nat.reduceEqDiff, Nat.reduceAdd, Nat.reduceSub, Nat.reduceMul, Nat.reduceLT, Nat.reduceLeDiff, Nat.reduceBEq, Nat.reduceDiv, Nat.reduceMod, Int.reduceToNat, Int.reduceNeg, Int.reduceAdd, Int.reduceSub, Int.reduceMul, Int.reduceEq, Int.reduceNe, Int.reduceLT, Int.reduceLE, Int.reduceGT, Int.reduceGE], by simp -implicitDefEqProofs (maxSteps := 1000000) (disch := omega) only [↓xsP, ↓vc_seq, xsQ, xsT, xsR, xsD, ↓reduceIte, reduceCtorEq, eq_self, ne_eq, imp_self, forall_const, Nat.reduceEqDiff, Nat.reduceAdd, Nat.reduceSub, Nat.reduceMul, Nat.reduceLT, Nat.reduceLeDiff, Nat.reduceBEq, Nat.reduceDiv, Nat.reduceMod, Int.reduceToNat, Int.reduceNeg, Int.reduceAdd, Int.reduceSub, Int.reduceMul, Int.reduceEq, Int.reduceNe, Int.reduceLT, Int.reduceLE, Int.reduceGT, Int.reduceGE], by simp -implicitDefEqProofs (maxSteps := 1000000) (disch := omega) only [↓xsP, ↓vc_seq, xsQ, xsT, xsR, xsD, ↓reduceIte, reduceCtorEq, eq_self, ne_eq, imp_self, forall_const, Nat.reduceEqDiff, Nat.reduceAdd, Nat.reduceSub, Nat.reduceMul, Nat.reduceLT, Nat.reduceLeDiff, Nat.reduceBEq, Nat.reduceDiv, Nat.reduceMod, Int.reduceToNat, Int.reduceNeg, Int.reduceAdd, Int.reduceSub, Int.reduceMul, Int.reduceEq, Int.reduceNe, Int.reduceLT, Int.reduceLE, Int.reduceGT, Int.reduceGE, hw0], by simp -implicitDefEqProofs (maxSteps := 1000000) (disch := omega) only [↓xsP, ↓vc_seq, xsQ, xsT, xsR, xsD, ↓reduceIte, reduceCtorEq, eq_self, ne_eq, imp_self, forall_const, Nat.reduceEqDiff, Nat.reduceAdd, Nat.reduceSub, Nat.reduceMul, Nat.reduceLT, Nat.reduceLeDiff, Nat.reduceBEq, Nat.reduceDiv, Nat.reduceMod, Int.reduceToNat, Int.reduceNeg, Int.reduceAdd, Int.reduceSub, Int.reduceMul, Int.reduceEq, Int.reduceNe, Int.reduceLT, Int.reduceLE, Int.reduceGT, Int.reduceGE, h10], by simp -implicitDefEqProofs (maxSteps := 1000000) (disch := omega) only [↓xsP, ↓vc_seq, xsQ, xsT, xsR, xsD, ↓reduceIte, reduceCtorEq, eq_self, ne_eq, imp_self, forall_const, Nat.reduceEqDiff, Nat.reduceAdd, Nat.reduceSub, Nat.reduceMul, Nat.reduceLT, Nat.reduceLeDiff, Nat.reduceBEq, Nat.reduceDiv, Nat.reduceMod, Int.reduceToNat, Int.reduceNeg, Int.reduceAdd, Int.reduceSub, Int.reduceMul, Int.reduceEq, Int.reduceNe, Int.reduceLT, Int.reduceLE, Int.reduceGT, Int.reduceGE, h11], by simp -implicitDefEqProofs (maxSteps := 1000000) (disch := omega) only [↓xsP, ↓vc_seq, xsQ, xsT, xsR, xsD, ↓reduceIte, reduceCtorEq, eq_self, ne_eq, imp_self, forall_const, Nat.reduceEqDiff, Nat.reduceAdd, Nat.reduceSub, Nat.reduceMul, Nat.reduceLT, Nat.reduceLeDiff, Nat.reduceBEq, Nat.reduceDiv, Nat.reduceMod, Int.reduceToNat, Int.reduceNeg, Int.reduceAdd, Int.reduceSub, Int.reduceMul, Int.reduceEq, Int.reduceNe, Int.reduceLT, Int.reduceLE, Int.reduceGT, Int.reduceGE, h12], by rw [row_evt, hret], rfl⟩
            · clear h10 h11 h12 h3
              rintro k fr M2 ⟨hk, h3, h4, h5, h6, h10, h11, h12, hM2, hlb⟩
              have hM5 : M2 id5 = some (.cells 36 [x.row] 0) := by rw [hM2]; exact Mem.set_eq _ _ _
              rw [row_evt] at hM5
              have hM2O : M2 idO = some (.cells 77 (out.map Cl.row) 0) := by rw [hM2, Mem.set_ne _ _ _ _ (by omega)]; exact hMO
              simp -implicitDefEqProofs (maxSteps := 1000000) (disch := omega) only [↓xsP, ↓vc_seq, xsQ, xsT, xsR, xsD, ↓reduceIte, reduceCtorEq, eq_self, ne_eq, imp_self, forall_const, Nat.reduceEqDiff, Nat.reduceAdd, Nat.reduceSub, Nat.reduceMul, Nat.reduceLT, Nat.reduceLeDiff, Nat.reduceBEq, Nat.reduceDiv, Nat.reduceMod, Int.reduceToNat, Int.reduceNeg, Int.reduceAdd, Int.reduceSub, Int.reduceMul, Int.reduceEq, Int.reduceNe, Int.reduceLT, Int.reduceLE, Int.reduceGT, Int.reduceGE, h3, h4, h5, h6, h10, h11, h12]
              refine condI_prop (fun hk0 => ?_) (fun hk0 => ?_)
              · simp -implicitDefEqProofs (maxSteps := 1000000) (disch := omega) only [↓xsP, ↓vc_seq, xsQ, xsT, xsR, xsD, ↓reduceIte, reduceCtorEq, eq_self, ne_eq, imp_self, forall_const, Nat.reduceEqDiff, Nat.reduceAdd, Nat.reduceSub, Nat.reduceMul, Nat.reduceLT, Nat.reduceLeDiff, Nat.reduceBEq, Nat.reduceDiv, Nat.reduceMod, Int.reduceToNat, Int.reduceNeg, Int.reduceAdd, Int.reduceSub, Int.reduceMul, Int.reduceEq, Int.reduceNe, Int.reduceLT, Int.reduceLE, Int.reduceGT, Int.reduceGE, h3, h4, h5, h6, h10, h11, h12]
                refine xquiet (by kernel_rfl) (by kernel_rfl) (by kernel_rfl) ?_
                simp -implicitDefEqProofs (maxSteps := 1000000) (disch := omega) only [↓xsP, ↓vc_seq, xsQ, xsT, xsR, xsD, ↓reduceIte, reduceCtorEq, eq_self, ne_eq, imp_self, forall_const, Nat.reduceEqDiff, Nat.reduceAdd, Nat.reduceSub, Nat.reduceMul, Nat.reduceLT, Nat.reduceLeDiff, Nat.reduceBEq, Nat.reduceDiv, Nat.reduceMod, Int.reduceToNat, Int.reduceNeg, Int.reduceAdd, Int.reduceSub, Int.reduceMul, Int.reduceEq, Int.reduceNe, Int.reduceLT, Int.reduceLE, Int.reduceGT, Int.reduceGE, h3, h4, h5, h6, h10, h11, h12, hM5, hM2O]
                have hk1 : k = (k - 1) + 1 := by omega
                refine condI_prop (fun hw => ?_) (fun hw => ?_)
                · simp -implicitDefEqProofs (maxSteps := 1000000) (disch := omega) only [↓xsP, ↓vc_seq, xsQ, xsT, xsR, xsD, ↓reduceIte, reduceCtorEq, eq_self, ne_eq, imp_self, forall_const, Nat.reduceEqDiff, Nat.reduceAdd, Nat.reduceSub, Nat.reduceMul, Nat.reduceLT, Nat.reduceLeDiff, Nat.reduceBEq, Nat.reduceDiv, Nat.reduceMod, Int.reduceToNat, Int.reduceNeg, Int.reduceAdd, Int.reduceSub, Int.reduceMul, Int.reduceEq, Int.reduceNe, Int.reduceLT, Int.reduceLE, Int.reduceGT, Int.reduceGE, h3, h4, h5, h6, h10, h11, h12]
                  have hlk : lastBy out x.who out.length = some (k - 1) := by rw [hlb, hk1, lastBy, if_pos hw]; rfl
                  rw [hlk] at hrun
                  simp only at hrun
                  refine xwrite (fun n0 => [ (9, idO), (12, idO)]) [9, 12] [] [[], [], [9], [9], [], [9], [9], [], [], [], [], [], []] (by kernel_rfl) (by kernel_rfl) (by kernel_rfl) (by kernel_rfl) (fun n0 hn0 => ⟨rfl, ?_, ?_⟩)
                  · exact TOk_cons (.inl (lt_of_bnd hn0 hM2O)) (TOk_cons (.inl (lt_of_bnd hn0 hM2O)) (TOk_nil _ _))
                  · have k5 := lt_of_bnd hn0 hM5
                    have kO := lt_of_bnd hn0 hM2O
                    simp -implicitDefEqProofs (maxSteps := 1000000) (disch := omega) only [↓xsP, ↓vc_seq, xsQ, xsT, xsR, xsD, ↓reduceIte, reduceCtorEq, eq_self, ne_eq, imp_self, forall_const, Nat.reduceEqDiff, Nat.reduceAdd, Nat.reduceSub, Nat.reduceMul, Nat.reduceLT, Nat.reduceLeDiff, Nat.reduceBEq, Nat.reduceDiv, Nat.reduceMod, Int.reduceToNat, Int.reduceNeg, Int.reduceAdd, Int.reduceSub, Int.reduceMul, Int.reduceEq, Int.reduceNe, Int.reduceLT, Int.reduceLE, Int.reduceGT, Int.reduceGE, h3, h4, h5, h6, h10, h11, h12, hM5, hM2O]
                    have hes : (out.map Cl.row).set (k - 1) [Lf.int IntKind.i64 (out.getD (k - 1) default).who, Lf.int IntKind.i64 (out.getD (k - 1) default).beg, Lf.int IntKind.i64 (i : Int), Lf.int IntKind.i64 (out.getD (k - 1) default).op.kind, Lf.int IntKind.i64 (out.getD (k - 1) default).op.key, Lf.int IntKind.i64 (out.getD (k - 1) default).op.to, Lf.int IntKind.i64 (out.getD (k - 1) default).op.val, Lf.int IntKind.i64 x.ans.err, Lf.bool x.ans.ok, Lf.int IntKind.i64 x.ans.pair.key, Lf.int IntKind.i64 x.ans.pair.val, Lf.int IntKind.i64 x.ans.n, Lf.sl (List.map Pr.row x.ans.pairs)] =
                        (out.set (k - 1) { out.getD (k - 1) default with fin := i, ans := x.ans }).map Cl.row := by rw [List.map_set]; rfl
                    rw [hes]
                    refine ⟨h.length - (i + 1), M.set idO (.cells 77 ((out.set (k - 1) { out.getD (k - 1) default with fin := i, ans := x.ans }).map Cl.row) 0), by omega, GStep.le ?_, i + 1, out.set (k - 1) { out.getD (k - 1) default with fin := i, ans := x.ans }, by omega, rfl, by simp, hrun, by simp; omega, .inr ⟨idO, hidO, by simp, rfl⟩⟩
                    rw [hM2, hM']
                    intro j b hj
                    rw [Mem.set_app] at hj ⊢
                    by_cases e : idO = j
                    · rw [if_pos e] at hj ⊢
                      exact hj
                    · rw [if_neg e] at hj ⊢
                      have := lt_of_bnd hidO hj
                      rw [Mem.set_ne _ _ _ _ (by omega), Mem.set_ne _ _ _ _ (by omega)]
                      exact hj
                · simp -implicitDefEqProofs (maxSteps := 1000000) (disch := omega) only [↓xsP, ↓vc_seq, xsQ, xsT, xsR, xsD, ↓reduceIte, reduceCtorEq, eq_self, ne_eq, imp_self, forall_const, Nat.reduceEqDiff, Nat.reduceAdd, Nat.reduceSub, Nat.reduceMul, Nat.reduceLT, Nat.reduceLeDiff, Nat.reduceBEq, Nat.reduceDiv, Nat.reduceMod, Int.reduceToNat, Int.reduceNeg, Int.reduceAdd, Int.reduceSub, Int.reduceMul, Int.reduceEq, Int.reduceNe, Int.reduceLT, Int.reduceLE, Int.reduceGT, Int.reduceGE, h3, h4, h5, h6, h10, h11, h12]
                  refine ⟨k - 1, M2, by omega, Mem.le_refl _, by omega, ?_, hM2, ?_⟩
                  · rw [show (k : Int) - 1 - 1 = ((k - 1 : Nat) : Int) - 1 by omega]
                  · rw [hlb, hk1, lastBy, if_neg hw]; rfl
              · simp -implicitDefEqProofs (maxSteps := 1000000) (disch := omega) only [↓xsP, ↓vc_seq, xsQ, xsT, xsR, xsD, ↓reduceIte, reduceCtorEq, eq_self, ne_eq, imp_self, forall_const, Nat.reduceEqDiff, Nat.reduceAdd, Nat.reduceSub, Nat.reduceMul, Nat.reduceLT, Nat.reduceLeDiff, Nat.reduceBEq, Nat.reduceDiv, Nat.reduceMod, Int.reduceToNat, Int.reduceNeg, Int.reduceAdd, Int.reduceSub, Int.reduceMul, Int.reduceEq, Int.reduceNe, Int.reduceLT, Int.reduceLE, Int.reduceGT, Int.reduceGE, h3, h4, h5, h6, h10, h11, h12]
                have hk00 : k = 0 := by omega
                subst hk00
                rw [hlb, lastBy] at hrun
                simp only at hrun
                refine ⟨h.length - (i + 1), M', by omega, GStep.le (by rw [hM2]; exact le_new (Mem.le_refl _) hid5), i + 1, out, by omega, rfl, by simp, hrun, by omega, .inr ⟨idO, hidO, rfl, hM'⟩⟩
      · simp -implicitDefEqProofs (maxSteps := 1000000) (disch := omega) only [↓xsP, ↓vc_seq, xsQ, xsT, xsR, xsD, ↓reduceIte, reduceCtorEq, eq_self, ne_eq, imp_self, forall_const, Nat.reduceEqDiff, Nat.reduceAdd, Nat.reduceSub, Nat.reduceMul, Nat.reduceLT, Nat.reduceLeDiff, Nat.reduceBEq, Nat.reduceDiv, Nat.reduceMod, Int.reduceToNat, Int.reduceNeg, Int.reduceAdd, Int.reduceSub, Int.reduceMul, Int.reduceEq, Int.reduceNe, Int.reduceLT, Int.reduceLE, Int.reduceGT, Int.reduceGE, h10, h11, h12]
        have hil : i = h.length := by omega
        rw [hil, List.drop_length, crun, hce] at hrun
        rcases hmem with ⟨ho, h3, rfl⟩ | ⟨idO, hidO, h3, rfl⟩
        · simp -implicitDefEqProofs (maxSteps := 1000000) (disch := omega) only [↓xsP, ↓vc_seq, xsQ, xsT, xsR, xsD, ↓reduceIte, reduceCtorEq, eq_self, ne_eq, imp_self, forall_const, Nat.reduceEqDiff, Nat.reduceAdd, Nat.reduceSub, Nat.reduceMul, Nat.reduceLT, Nat.reduceLeDiff, Nat.reduceBEq, Nat.reduceDiv, Nat.reduceMod, Int.reduceToNat, Int.reduceNeg, Int.reduceAdd, Int.reduceSub, Int.reduceMul, Int.reduceEq, Int.reduceNe, Int.reduceLT, Int.reduceLE, Int.reduceGT, Int.reduceGE, h3]
          refine finI_of (XFin.wk (XFin.here ⟨?_, rfl⟩))
          rw [hrun, ho]
          rfl
        · simp -implicitDefEqProofs (maxSteps := 1000000) (disch := omega) only [↓xsP, ↓vc_seq, xsQ, xsT, xsR, xsD, ↓reduceIte, reduceCtorEq, eq_self, ne_eq, imp_self, forall_const, Nat.reduceEqDiff, Nat.reduceAdd, Nat.reduceSub, Nat.reduceMul, Nat.reduceLT, Nat.reduceLeDiff, Nat.reduceBEq, Nat.reduceDiv, Nat.reduceMod, Int.reduceToNat, Int.reduceNeg, Int.reduceAdd, Int.reduceSub, Int.reduceMul, Int.reduceEq, Int.reduceNe, Int.reduceLT, Int.reduceLE, Int.reduceGT, Int.reduceGE, h3]
          refine finI_of (XFin.frz idO (Mem.set_eq _ _ _) (XFin.le ?_ ⟨?_, rfl⟩))
          · rw [Mem.set_set]
            exact le_new (Mem.le_refl _) hidO
          · rw [hrun]
            simp [frzA, frz1, frzL, List.take_of_length_le]
end Go.X
set_option linter.unusedVariables false
set_option linter.unusedSimpArgs false
set_option maxHeartbeats 20000000
set_option maxRecDepth 100000
namespace Go.X
open Go.Proofs.Tryd (prog)

theorem lastV_noneO {k : Int} : ∀ {l : List Pr} {o : Option Int}, (∀ p ∈ l, p.key ≠ k) → lastV k o l = o
  | [], o, _ => rfl
  | p :: r, o, h => by
    rw [lastV, List.foldl_cons, if_neg (fun e => h p (by simp) e.symm)]
    exact lastV_noneO (l := r) fun q hq => h q (by simp [hq])
theorem lastV_ascO {k : Int} : ∀ {l : List Pr} {o : Option Int}, Asc l → lastV k o l = (match look l k with | some v => some v | none => o)
  | [], o, _ => rfl
  | p :: r, o, h => by
    have h2 := List.pairwise_cons.1 h
    rw [look]
    by_cases e : p.key = k
    · rw [if_pos e, lastV, List.foldl_cons, if_pos e.symm]
      refine lastV_noneO (l := r) fun q hq => ?_
      have := h2.1 q hq
      omega
    · rw [if_neg e, lastV, List.foldl_cons, if_neg (fun h => e h.symm)]
      exact lastV_ascO (l := r) h2.2
theorem putL_idO {l : List Pr} (h : Asc l) : putL l = l := look_ext (putL_asc l) h fun k => by
  rw [putL_look, lastV_ascO h]
  cases look l k <;> rfl

/-- A slice of pairs that may be nil, or stand in a block that is kept. -/
def IsK (M : Mem) (x : Lf) (l : List Pr) : Prop := IsL x l ∨ ∃ id keep, M id = some (.cells 32 (l.map Pr.row) keep) ∧ l.length ≤ keep ∧ x = .ms id 0 l.length
theorem IsK.sl (M : Mem) (l : List Pr) : IsK M (.sl (l.map Pr.row)) l := .inl (.inl rfl)
theorem IsK.le {M N : Mem} {x : Lf} {l : List Pr} (h : IsK M x l) (hle : M.le N) : IsK N x l := by
  rcases h with h | ⟨id, keep, h1, h2, h3⟩
  · exact .inl h
  · exact .inr ⟨id, keep, hle _ _ h1, h2, h3⟩
end Go.X
set_option linter.unusedVariables false
set_option linter.unusedSimpArgs false
set_option maxHeartbeats 20000000
set_option maxRecDepth 100000
namespace Go.X
open Go.Proofs.Tryd (prog)

def c0 : Cl := ⟨1, 0, 2, ⟨4, 0, 0, 0⟩, ans0⟩
def c1 : Cl := ⟨0, 1, -1, ⟨7, 0, 0, 0⟩, ans0⟩
end Go.X
set_option linter.unusedVariables false
set_option linter.unusedSimpArgs false
set_option maxHeartbeats 20000000
set_option maxRecDepth 100000
namespace Go.X
open Go.Proofs.Tryd (prog)

def hist9 : List Evt := [⟨0, false, ⟨1, 1, 0, 5⟩, ans0⟩, ⟨1, false, ⟨4, 1, 0, 0⟩, ans0⟩, ⟨1, true, ⟨4, 1, 0, 0⟩, ⟨0, true, ⟨1, 5⟩, 0, []⟩⟩]
def C9 : List Cl := [⟨0, 0, -1, ⟨1, 1, 0, 5⟩, ans0⟩, ⟨1, 1, 2, ⟨4, 1, 0, 0⟩, ⟨0, true, ⟨1, 5⟩, 0, []⟩⟩]
theorem readP_hist9 : readP hist9 = some C9 := by
  simp [readP, hist9, C9, rrun, rstep, iget, iput, idel, mayOpB, List.getD]
theorem callsP_hist9 : callsP hist9 = C9 := by rw [callsP, readP_hist9]; rfl
theorem okP_hist9 : okP hist9 = true := by rw [okP, readP_hist9]; rfl
theorem small9 : Small hist9 := by
  refine ⟨by decide, fun x hx => ?_⟩
  simp only [hist9, List.mem_cons, List.not_mem_nil, or_false] at hx
  rcases hx with rfl | rfl | rfl <;> decide
theorem put9 : doL [] ⟨1, 1, 0, 5⟩ = [⟨1, 5⟩] := by
  rw [doL_upd (by simp [Asc]) (by decide) (by decide)]
  decide
theorem get9 : doA [⟨1, 5⟩] ⟨4, 1, 0, 0⟩ = ⟨0, true, ⟨1, 5⟩, 0, []⟩ := by
  rw [doA_one (asc1 _) (by decide) (by decide)]
  decide
theorem get9' : (doA [] ⟨4, 1, 0, 0⟩).ok = false := by
  rw [doA_one (by simp [Asc]) (by decide) (by decide)]
  decide
theorem read9 (s : List Pr) : doL s ⟨4, 1, 0, 0⟩ = s := doL_read (by decide)
theorem goes9a : goesO C9 [0, 1] [] = some [⟨1, 5⟩] := by
  rw [goesO, if_neg (fun h => absurd h.1 (by decide)), show (clAt C9 0).op = ⟨1, 1, 0, 5⟩ from rfl, put9, goesO, if_neg (fun h => h.2 (by rw [show (clAt C9 1).op = ⟨4, 1, 0, 0⟩ from rfl, get9]; rfl)), show (clAt C9 1).op = ⟨4, 1, 0, 0⟩ from rfl, read9, goesO]
theorem goes9b (r : List Int) : goesO C9 (1 :: r) [] = none := by
  have hne : doA [] (clAt C9 1).op ≠ (clAt C9 1).ans := fun h => by
    have := congrArg Ans.ok h
    rw [show (clAt C9 1).op = ⟨4, 1, 0, 0⟩ from rfl, get9'] at this
    cases this
  rw [goesO, if_pos ⟨by decide, hne⟩]
theorem right9a : rightO [] hist9 [0, 1] = some [⟨1, 5⟩] := by
  rw [rightO, callsP_hist9, rightB, callsP_hist9, okP_hist9, bof_true (show Rises [] from fun j h1 h2 => by simp at h2)]
  have h1 : namedB C9 [0, 1] = true := bof_true ⟨by decide, by decide, by decide⟩
  have h2 : timelyB C9 [0, 1] = true := bof_true fun a b h1 h2 => by
    have : a = 0 ∧ b = 1 := by simp at h2; omega
    obtain ⟨rfl, rfl⟩ := this
    exact fun h => absurd h.2 (by decide)
  rw [h1, h2]
  exact goes9a
theorem right9b (r : List Int) : rightO [] hist9 (1 :: r) = none := by
  rw [rightO, callsP_hist9, show putL [] = [] from rfl, goes9b]
  split <;> rfl
end Go.X
set_option linter.unusedVariables false
set_option linter.unusedSimpArgs false
set_option maxRecDepth 100000
namespace Go.X

theorem timely_pw (C : List Cl) (l : List Int) : timelyB C l = bof (l.Pairwise fun i j => ¬ befP (clAt C j) (clAt C i)) := by
  rw [timelyB]
  refine bof_congr ?_
  rw [List.pairwise_iff_getElem]
  constructor
  · intro h i j hi hj hij
    have := h i j hij hj
    simpa [List.getD_eq_getElem?_getD, hi, hj] using this
  · intro h a b hab hb
    have := h a b (by omega) hb hab
    simpa [List.getD_eq_getElem?_getD, show a < l.length by omega, hb] using this
end Go.X
set_option linter.unusedVariables false
set_option linter.unusedSimpArgs false
set_option maxRecDepth 100000
namespace Go.X

theorem right_inv {b : List Pr} {h : List Evt} {l : List Int} {s : List Pr} (hr : rightO b h l = some s) : bof (Rises b) = true ∧ okP h = true ∧ namedB (callsP h) l = true ∧ timelyB (callsP h) l = true ∧ goesO (callsP h) l (putL b) = some s := by
  rw [rightO] at hr
  split at hr
  · rename_i hB
    rw [rightB, Bool.and_eq_true, Bool.and_eq_true, Bool.and_eq_true] at hB
    exact ⟨hB.1, hB.2.1, hB.2.2.1, hB.2.2.2, hr⟩
  · cases hr
theorem right_mk {b : List Pr} {h : List Evt} {l : List Int} (h1 : bof (Rises b) = true) (h2 : okP h = true) (h3 : namedB (callsP h) l = true) (h4 : timelyB (callsP h) l = true) : rightO b h l = goesO (callsP h) l (putL b) := by
  rw [rightO, if_pos (by rw [rightB, h1, h2, h3, h4]; rfl)]
end Go.X
set_option linter.unusedVariables false
set_option linter.unusedSimpArgs false
set_option maxHeartbeats 20000000
set_option maxRecDepth 100000
namespace Go.X
open Go.Proofs.Tryd (prog)
open Go.RowKit

theorem ne_ty {B : Mem} {i j T T' k k' : Nat} {rs rs' : List (List Lf)} (h : B i = some (.cells T rs k)) (h' : B j = some (.cells T' rs' k')) (hT : T ≠ T') : i ≠ j := fun e => by
  rw [e, h'] at h
  simp only [Option.some.injEq, Blk.cells.injEq] at h
  exact hT h.1.symm
def byR (l : List UInt8) : List (List Lf) := l.map fun b => [.int .u8 (b.toNat : Int)]
theorem byR_app (a b : List UInt8) : byR (a ++ b) = byR a ++ byR b := List.map_append
theorem byR_len (a : List UInt8) : (byR a).length = a.length := List.length_map _
theorem byR_ne {a : List UInt8} (h : a ≠ []) : byR a ≠ [] := fun e => h (List.map_eq_nil_iff.1 e)
/-- A buffer of one's own: nil, or a block; and the memory without it. -/
inductive Buf (M : Mem) : Lf → List UInt8 → Mem → Prop
  | nil : Buf M .nils [] M
  | ms {id : Nat} {l : List UInt8} (h : M id = some (.cells 5 (byR l) 0)) : Buf M (.ms id 0 l.length) l (M.del id)
theorem Buf.le {M M0 : Mem} {x : Lf} {l : List UInt8} (h : Buf M x l M0) : M0.le M := by
  cases h with
  | nil => exact Mem.le_refl _
  | ms h => exact fun k bk hk => by rw [Mem.del_app] at hk; split at hk; cases hk; exact hk
theorem app_buf {M M0 : Mem} {x : Lf} {l bs : List UInt8} (hb : Buf M x l M0) {tx : TypeId} {src : AV} (hsrc : ∀ te, tiOf Go.Proofs.Tryd.prog 5 = some te → srcRows Go.Proofs.Tryd.prog M 96 tx 5 te src = some (byR bs)) (hne : bs ≠ []) (hlen : (l ++ bs).length ≤ 1000000000) {K : AV → Mem → Prop}
    (h : ∀ id', (∀ j, id' ≤ j → M j = none) → K (.l (.ms id' 0 (l ++ bs).length)) (M0.set id' (.cells 5 (byR (l ++ bs)) 0))) : @appI Go.Proofs.Tryd.prog M 96 tx (.l x) src ⟨K⟩ := by
  cases hb with
  | nil =>
    refine app_nils _ _ _ _ 5 _ _ ti_96 rfl ti_5 (by kernel_rfl) (by decide) _ (byR bs) (hsrc _ ti_5) ?_ ?_ (fun e => absurd e (byR_ne hne)) (fun _ id' hid => ?_)
    · rw [byR_len]
      rw [List.nil_append] at hlen
      show bs.length * 1 ≤ _
      omega
    · rw [byR_len]
      rw [List.nil_append] at hlen
      omega
    · rw [byR_len]
      exact h id' hid
  | ms hM =>
    rename_i id
    rw [List.length_append] at hlen
    refine app_ms _ _ _ _ 5 _ _ ti_96 rfl ti_5 (by kernel_rfl) (by decide) id l.length _ (rows := byR l) (keep := 0) (byR bs) hM (hsrc _ ti_5) (by rw [byR_len]; exact Nat.le_refl _) (Nat.zero_le _) ?_ ?_ (fun id' hid => ?_)
    · rw [byR_len]
      show (l.length + bs.length) * 1 ≤ _
      omega
    · rw [byR_len]
      omega
    · have := h id' hid
      rw [byR_app, List.length_append] at this
      rw [List.take_of_length_le (by rw [byR_len]; exact Nat.le_refl _), byR_len]
      exact this

/-- Cells of a block that no id names are never written again. -/
theorem rel_frz_out {g : Gh} {M : Mem} {w : World} (h : Rel g M w) {b0 n : Nat} (hnew : ∀ id x, g.blk id = some x → x.1 ≠ b0) (hc : ∀ o, o < n → ∃ v, w.cell? ⟨b0, o, none⟩ = some v) : Ev g w (g.frz b0 n) w ∧ Rel (g.frz b0 n) M w := by
  have e : Ev g w (g.frz b0 n) w := ⟨rfl, rfl, fun _ _ h => h, fun _ _ h => .inl h, fun _ _ _ => rfl, rfl, fun _ _ h => h⟩
  refine ⟨e, ?_⟩
  exact {
    blk := fun i blk hb => (h.blk i blk hb).ev e (fun _ _ => rfl) (fun y hy o ho => by
      rcases ho with ho | ⟨he, _⟩
      · exact ho
      · exact absurd he (hnew i y hy))
    inj := h.inj
    lt := h.lt
    fz := fun b o ho => by
      rcases ho with ho | ⟨rfl, ho⟩
      · exact h.fz b o ho
      · exact hc o ho
    fin := h.fin
    below := h.below
    tab := h.tab }
theorem rel_pow {g : Gh} {M : Mem} {w : World} (h : Rel g M w) (hP : g.P = Go.Proofs.Tryd.prog) : PowTab w := by
  obtain ⟨t, fr, h0⟩ := h.tab.1 (by rw [hP]; exact of_decide_eq_true (by kernel_rfl))
  have h1 : PowTab g.w0 := ⟨t, fr, h0⟩
  exact h1.on (b := g.w0.heap.size) (by have := (Array.getElem?_eq_some_iff.1 h0).1; omega) h.below
theorem digits_conc {g : Gh} {w : World} {b0 : Nat} {l : List UInt8} (hc : ∀ j c, (Lib.byteCells l)[j]? = some c → w.cell? ((⟨b0, 0, none⟩ : Addr).add j) = some c) (cap : Nat) (hcap : l.length ≤ cap) : ConcA (g.frz b0 l.length) w (.l (.sl (byR l))) (.slice (some ⟨b0, 0, none⟩) l.length cap) := by
  refine .l ?_
  have hb : ∀ i : Nat, i < l.length → (Lib.byteCells l)[i]? = some (.int .u8 ((l.getD i 0).toNat : Int)) := fun i hi => by simp [Lib.byteCells, hi, List.getD_eq_getElem?_getD]
  have := Conc.sl (g := g.frz b0 l.length) (w := w) (rows := byR l) (b := b0) (o := 0) (sz := 1) (cap := cap) (fun i => .int .u8 ((l.getD i 0).toNat : Int)) (fun r hr => by
    obtain ⟨x, -, rfl⟩ := List.mem_map.1 hr
    rfl) (by rw [byR_len]; exact hcap) (fun i hi => by
    rw [byR_len, Nat.mul_one] at hi
    have h1 := hc i _ (hb i hi)
    rw [addr_add] at h1
    exact ⟨.inr ⟨rfl, by omega⟩, h1⟩) (fun i j r x hr hx => by
    rw [byR, List.getElem?_map] at hr
    obtain ⟨y, hy, rfl⟩ := Option.map_eq_some_iff.1 hr
    cases j with
    | zero =>
      simp only [List.getElem?_cons_zero, Option.some.injEq] at hx
      subst hx
      have : l.getD i 0 = y := by rw [List.getD_eq_getElem?_getD, hy]; rfl
      rw [Nat.mul_one, Nat.add_zero, this]
      exact .int _ _
    | succ j => simp at hx)
  rwa [byR_len] at this
theorem decDigits_ne (u : Nat) : Lib.decDigits u ≠ [] := fun e => by
  have h1 := Lib.decDigits_length u
  rw [e] at h1
  have h2 : 1 ≤ Lib.nDigits u := by
    rw [Lib.nDigits]
    split <;> omega
  simp at h1
  omega
theorem appU_spec {M M0 : Mem} {x : Lf} {l : List UInt8} (hb : Buf M x l M0) (u : Nat) (hu : u < 18446744073709551616) (hl : l.length ≤ 100000000) : XCalls Go.Proofs.Tryd.prog 63 [.l x, .l (.int .u64 u), .l (.int .i64 10)] M fun r M' =>
    ∃ id', (∀ j, id' ≤ j → M j = none) ∧ r = .l (.ms id' 0 (l ++ Lib.decDigits u).length) ∧ M' = M0.set id' (.cells 5 (byR (l ++ Lib.decDigits u)) 0) := by
  have hnd : (Lib.decDigits u).length ≤ 20 := by
    rw [Lib.decDigits_length]
    by_cases h0 : u < 10
    · rw [Lib.nDigits_small h0]; omega
    · have := Lib.numDigits_eq u (by omega) hu
      split at this <;> omega
  refine ⟨by kernel_rfl, fun g w vs hP hA hR => ?_⟩
  obtain ⟨hsz, hA⟩ := hA
  obtain ⟨sv, c1, c2, rfl⟩ : ∃ a b c, vs = #[a, b, c] := by
    obtain ⟨vl⟩ := vs
    match vl, hsz with
    | [a, b, c], _ => exact ⟨a, b, c, rfl⟩
  have h0 := hA 0 _ _ rfl rfl
  have h1 := hA 1 _ _ rfl rfl
  have h2 := hA 2 _ _ rfl rfl
  obtain rfl : c1 = .int .u64 u := by cases h1 with | l h => cases h; rfl
  obtain rfl : c2 = .int .i64 10 := by cases h2 with | l h => cases h; rfl
  have hlen : (l ++ Lib.decDigits u).length ≤ 1000000000 := by rw [List.length_append]; omega
  have hK : ∀ {tx : TypeId} {src : AV}, (∀ te, tiOf Go.Proofs.Tryd.prog 5 = some te → srcRows Go.Proofs.Tryd.prog M 96 tx 5 te src = some (byR (Lib.decDigits u))) → @appI Go.Proofs.Tryd.prog M 96 tx (.l x) src ⟨fun r M' =>
      ∃ id', (∀ j, id' ≤ j → M j = none) ∧ r = .l (.ms id' 0 (l ++ Lib.decDigits u).length) ∧ M' = M0.set id' (.cells 5 (byR (l ++ Lib.decDigits u)) 0)⟩ := fun hs => app_buf hb hs (decDigits_ne u) hlen fun id' hid => ⟨id', hid, rfl, rfl⟩
  by_cases hs : u < 100
  · refine appU_small u hs sv w ?_
    obtain ⟨c, w', g', v, M', hr, hk, he, hc, hrel⟩ := run_appendA (ty := 96) hP hR h0 (.l (.str ⟨(Lib.decDigits u).toArray⟩)) (N := newK M) (fun F hF => newK_pick hR hF) (hK (tx := 9) (src := .l (.str ⟨(Lib.decDigits u).toArray⟩)) fun te hte => by
      unfold srcRows
      rw [if_neg (by decide)]
      rw [ti_5] at hte
      cases hte
      simp only [ti_9]
      rfl)
    exact ⟨c, w', hr, c, v, g', M', rfl, hk, he, hc, hrel⟩
  · refine appU_big u (by omega) hu sv w (rel_pow hR hP) fun W hbel hcells => ?_
    obtain ⟨e1, hR1⟩ := rel_same hR hbel
    obtain ⟨e2, hR2⟩ := rel_frz_out hR1 (b0 := w.heap.size) (n := (Lib.decDigits u).length) (fun id x hx => by have := hR.lt id x hx; omega) (fun o ho => by
      have := hcells o (.int .u8 ((Lib.decDigits u)[o].toNat : Int)) (by simp [Lib.byteCells, ho])
      rw [addr_add, Nat.zero_add] at this
      exact ⟨_, this⟩)
    have e := e1.trans e2
    have hsrc := digits_conc (g := g) (w := W) hcells 24 (by omega)
    rw [← Lib.decDigits_length]
    obtain ⟨c, w', g', v, M', hr, hk, he, hc, hrel⟩ := run_appendA (ty := 96) (e2.P.trans hP) hR2 (h0.ev e) hsrc (N := newK M) (fun F hF => newK_pick hR2 hF) (hK (tx := 96) (src := .l (.sl (byR (Lib.decDigits u)))) fun te hte => by
      unfold srcRows
      rw [if_pos rfl]
      rw [ti_5] at hte
      cases hte
      exact if_pos fun r hr => by
        obtain ⟨x, -, rfl⟩ := List.mem_map.1 hr
        rfl)
    exact ⟨c, w', hr, c, v, g', M', rfl, hk, e.trans he, hc, hrel⟩
end Go.X
set_option linter.unusedVariables false
set_option linter.unusedSimpArgs false
set_option maxHeartbeats 20000000
set_option maxRecDepth 100000
namespace Go.X
open Go.Proofs.Tryd (prog)
open Go.RowKit

theorem Buf.set {M M0 : Mem} {x : Lf} {l : List UInt8} (h : Buf M x l M0) {i : Nat} (hi : ∀ j, i ≤ j → M j = none) (X : Blk) : Buf (M.set i X) x l (M0.set i X) := by
  cases h with
  | nil => exact .nil
  | ms h =>
    rename_i id
    have hlt := lt_of_bnd hi h
    have e : (M.del id).set i X = (M.set i X).del id := by
      funext k
      simp only [Mem.set_app, Mem.del_app]
      by_cases h1 : i = k
      · rw [if_pos h1, if_neg (by omega), if_pos h1]
      · rw [if_neg h1]
        by_cases h2 : id = k
        · rw [if_pos h2, if_pos h2]
        · rw [if_neg h2, if_neg h2, if_neg h1]
    rw [e]
    exact .ms (by rw [Mem.set_ne _ _ _ _ (by omega)]; exact h)
theorem Buf.bnd {M M0 : Mem} {x : Lf} {l : List UInt8} (h : Buf M x l M0) {i : Nat} (hi : ∀ j, i ≤ j → M j = none) : ∀ j, i ≤ j → M0 j = none := fun j hj => by
  cases hm : M0 j with
  | none => rfl
  | some bk => have := h.le _ _ hm; rw [hi j hj] at this; cases this
theorem wrap_u64 (x : Int) : IntKind.u64.wrap x = x % 18446744073709551616 := rfl
theorem wrap_u64_neg {n : Int} (h0 : -9223372036854775808 ≤ n) (hn : n < 0) : IntKind.u64.wrap (0 - IntKind.u64.wrap n) = (n.natAbs : Int) := by
  rw [wrap_u64]
  try rw [wrap_u64]
  omega
theorem wrap_u64_pos {n : Int} (h1 : n ≤ 9223372036854775807) (hn : ¬ n < 0) : IntKind.u64.wrap n = (n.toNat : Int) := by
  rw [wrap_u64]
  try rw [wrap_u64]
  omega
theorem appI_spec0 {M M0 : Mem} {x : Lf} {l : List UInt8} (hb : Buf M x l M0) (n : Int) (h0 : -9223372036854775808 ≤ n) (h1 : n ≤ 9223372036854775807) (hl : l.length ≤ 10000000) : XCalls Go.Proofs.Tryd.prog 58 [.l x, .l (.int .i64 n), .l (.int .i64 10)] M fun r M' =>
    ∃ id', (∀ j, id' ≤ j → M j = none) ∧ r = .l (.ms id' 0 (l ++ Lib.itoa n).length) ∧ M' = M0.set id' (.cells 5 (byR (l ++ Lib.itoa n)) 0) := by
  refine xcalls_intro (rs := [.tmp 6]) Go.Proofs.Tryd.func58 rfl (by kernel_rfl) rfl rfl (by kernel_rfl) (by simp) ?_
  simp -implicitDefEqProofs (maxSteps := 1000000) (disch := omega) only [↓xsP, ↓vc_seq, xsQ, xsT, xsR, xsD, ↓reduceIte, reduceCtorEq, eq_self, ne_eq, imp_self, forall_const, Nat.reduceEqDiff, Nat.reduceAdd, Nat.reduceSub, Nat.reduceMul, Nat.reduceLT, Nat.reduceLeDiff, Nat.reduceBEq, Nat.reduceDiv, Nat.reduceMod, Int.reduceToNat, Int.reduceNeg, Int.reduceAdd, Int.reduceSub, Int.reduceMul, Int.reduceEq, Int.reduceNe, Int.reduceLT, Int.reduceLE, Int.reduceGT, Int.reduceGE]
  refine condI_prop (fun hn => ?_) (fun hn => ?_)
  · have e : Lib.itoa n = [45] ++ Lib.decDigits n.natAbs := by rw [Lib.itoa, if_pos hn]; rfl
    have hw := wrap_u64_neg h0 hn
    simp -implicitDefEqProofs (maxSteps := 1000000) (disch := omega) only [↓xsP, ↓vc_seq, xsQ, xsT, xsR, xsD, ↓reduceIte, reduceCtorEq, eq_self, ne_eq, imp_self, forall_const, Nat.reduceEqDiff, Nat.reduceAdd, Nat.reduceSub, Nat.reduceMul, Nat.reduceLT, Nat.reduceLeDiff, Nat.reduceBEq, Nat.reduceDiv, Nat.reduceMod, Int.reduceToNat, Int.reduceNeg, Int.reduceAdd, Int.reduceSub, Int.reduceMul, Int.reduceEq, Int.reduceNe, Int.reduceLT, Int.reduceLE, Int.reduceGT, Int.reduceGE]
    refine newI_intro fun idn hidn => ?_
    simp -implicitDefEqProofs (maxSteps := 1000000) (disch := omega) only [↓xsP, ↓vc_seq, xsQ, xsT, xsR, xsD, ↓reduceIte, reduceCtorEq, eq_self, ne_eq, imp_self, forall_const, Nat.reduceEqDiff, Nat.reduceAdd, Nat.reduceSub, Nat.reduceMul, Nat.reduceLT, Nat.reduceLeDiff, Nat.reduceBEq, Nat.reduceDiv, Nat.reduceMod, Int.reduceToNat, Int.reduceNeg, Int.reduceAdd, Int.reduceSub, Int.reduceMul, Int.reduceEq, Int.reduceNe, Int.reduceLT, Int.reduceLE, Int.reduceGT, Int.reduceGE]
    refine app_buf (hb.set hidn _) (bs := [45]) (fun te hte => ?_) (List.cons_ne_nil _ _) (by rw [List.length_append]; simp only [List.length_cons, List.length_nil]; omega) fun id2 hid2 => ?_
    · rw [ti_5] at hte
      cases hte
      unfold srcRows
      rw [if_pos rfl]
      simp only [Mem.set_eq]
      rw [if_pos ⟨trivial, by simp⟩]
      rfl
    obtain ⟨hlt, hid2'⟩ := bnd_new hid2
    have hl2 : (l ++ [45]).length ≤ 100000000 := by rw [List.length_append]; simp only [List.length_cons, List.length_nil]; omega
    obtain ⟨l2, hl2e⟩ : ∃ l2 : List UInt8, l ++ [45] = l2 := ⟨_, rfl⟩
    rw [hl2e] at hl2 ⊢
    simp -implicitDefEqProofs (maxSteps := 1000000) (disch := omega) only [↓xsP, ↓vc_seq, xsQ, xsT, xsR, xsD, ↓reduceIte, reduceCtorEq, eq_self, ne_eq, imp_self, forall_const, Nat.reduceEqDiff, Nat.reduceAdd, Nat.reduceSub, Nat.reduceMul, Nat.reduceLT, Nat.reduceLeDiff, Nat.reduceBEq, Nat.reduceDiv, Nat.reduceMod, Int.reduceToNat, Int.reduceNeg, Int.reduceAdd, Int.reduceSub, Int.reduceMul, Int.reduceEq, Int.reduceNe, Int.reduceLT, Int.reduceLE, Int.reduceGT, Int.reduceGE, hw]
    refine callI_of ((appU_spec (.ms (l := l2) (Mem.set_eq _ id2 _)) n.natAbs (by omega) hl2).mono ?_)
    rintro _ _ ⟨id3, hid3, rfl, rfl⟩
    obtain ⟨hlt3, hid3'⟩ := bnd_new hid3
    obtain ⟨hlt4, hid3''⟩ := bnd_new hid3'
    simp -implicitDefEqProofs (maxSteps := 1000000) (disch := omega) only [↓xsP, ↓vc_seq, xsQ, xsT, xsR, xsD, ↓reduceIte, reduceCtorEq, eq_self, ne_eq, imp_self, forall_const, Nat.reduceEqDiff, Nat.reduceAdd, Nat.reduceSub, Nat.reduceMul, Nat.reduceLT, Nat.reduceLeDiff, Nat.reduceBEq, Nat.reduceDiv, Nat.reduceMod, Int.reduceToNat, Int.reduceNeg, Int.reduceAdd, Int.reduceSub, Int.reduceMul, Int.reduceEq, Int.reduceNe, Int.reduceLT, Int.reduceLE, Int.reduceGT, Int.reduceGE]
    have hM0 := hb.bnd hidn
    refine fin_ok (M' := M0.set id3 (.cells 5 (byR (l ++ Lib.itoa n)) 0)) ?_ ⟨id3, fun j hj => hid2' j (by omega), by rw [e, ← List.append_assoc, hl2e], rfl⟩
    rw [e, ← List.append_assoc, hl2e]
    intro k bk hk
    rw [Mem.set_app] at hk ⊢
    by_cases h : id3 = k
    · rw [if_pos h] at hk ⊢
      exact hk
    · rw [if_neg h] at hk ⊢
      have := lt_of_bnd hM0 hk
      rw [Mem.del_ne _ _ _ (by omega), Mem.set_ne _ _ _ _ (by omega), Mem.set_ne _ _ _ _ (by omega)]
      exact hk
  · have e : Lib.itoa n = Lib.decDigits n.toNat := by rw [Lib.itoa, if_neg hn]
    have hw := wrap_u64_pos h1 hn
    simp -implicitDefEqProofs (maxSteps := 1000000) (disch := omega) only [↓xsP, ↓vc_seq, xsQ, xsT, xsR, xsD, ↓reduceIte, reduceCtorEq, eq_self, ne_eq, imp_self, forall_const, Nat.reduceEqDiff, Nat.reduceAdd, Nat.reduceSub, Nat.reduceMul, Nat.reduceLT, Nat.reduceLeDiff, Nat.reduceBEq, Nat.reduceDiv, Nat.reduceMod, Int.reduceToNat, Int.reduceNeg, Int.reduceAdd, Int.reduceSub, Int.reduceMul, Int.reduceEq, Int.reduceNe, Int.reduceLT, Int.reduceLE, Int.reduceGT, Int.reduceGE, hw]
    refine callI_of ((appU_spec hb n.toNat (by omega) (by omega)).mono ?_)
    rintro _ _ ⟨id3, hid3, rfl, rfl⟩
    simp -implicitDefEqProofs (maxSteps := 1000000) (disch := omega) only [↓xsP, ↓vc_seq, xsQ, xsT, xsR, xsD, ↓reduceIte, reduceCtorEq, eq_self, ne_eq, imp_self, forall_const, Nat.reduceEqDiff, Nat.reduceAdd, Nat.reduceSub, Nat.reduceMul, Nat.reduceLT, Nat.reduceLeDiff, Nat.reduceBEq, Nat.reduceDiv, Nat.reduceMod, Int.reduceToNat, Int.reduceNeg, Int.reduceAdd, Int.reduceSub, Int.reduceMul, Int.reduceEq, Int.reduceNe, Int.reduceLT, Int.reduceLE, Int.reduceGT, Int.reduceGE]
    exact fin_ok (Mem.le_refl _) ⟨id3, hid3, by rw [e], by rw [e]⟩
theorem appI_spec {M M0 : Mem} {x : Lf} {l : List UInt8} (hb : Buf M x l M0) (n : Int) (h0 : -9223372036854775808 ≤ n) (h1 : n ≤ 9223372036854775807) (hl : l.length ≤ 10000000) : XCalls Go.Proofs.Tryd.prog 49 [.l x, .l (.int .i64 n), .l (.int .i64 10)] M fun r M' =>
    ∃ id', (∀ j, id' ≤ j → M j = none) ∧ r = .l (.ms id' 0 (l ++ Lib.itoa n).length) ∧ M' = M0.set id' (.cells 5 (byR (l ++ Lib.itoa n)) 0) := by
  refine xcalls_intro (rs := [.tmp 6]) Go.Proofs.Tryd.func49 rfl (by kernel_rfl) rfl rfl (by kernel_rfl) (by simp) ?_
  simp -implicitDefEqProofs (maxSteps := 1000000) (disch := omega) only [↓xsP, ↓vc_seq, xsQ, xsT, xsR, xsD, ↓reduceIte, reduceCtorEq, eq_self, ne_eq, imp_self, forall_const, Nat.reduceEqDiff, Nat.reduceAdd, Nat.reduceSub, Nat.reduceMul, Nat.reduceLT, Nat.reduceLeDiff, Nat.reduceBEq, Nat.reduceDiv, Nat.reduceMod, Int.reduceToNat, Int.reduceNeg, Int.reduceAdd, Int.reduceSub, Int.reduceMul, Int.reduceEq, Int.reduceNe, Int.reduceLT, Int.reduceLE, Int.reduceGT, Int.reduceGE]
  refine callI_of ((appI_spec0 hb n h0 h1 hl).mono ?_)
  rintro _ _ ⟨id3, hid3, rfl, rfl⟩
  simp -implicitDefEqProofs (maxSteps := 1000000) (disch := omega) only [↓xsP, ↓vc_seq, xsQ, xsT, xsR, xsD, ↓reduceIte, reduceCtorEq, eq_self, ne_eq, imp_self, forall_const, Nat.reduceEqDiff, Nat.reduceAdd, Nat.reduceSub, Nat.reduceMul, Nat.reduceLT, Nat.reduceLeDiff, Nat.reduceBEq, Nat.reduceDiv, Nat.reduceMod, Int.reduceToNat, Int.reduceNeg, Int.reduceAdd, Int.reduceSub, Int.reduceMul, Int.reduceEq, Int.reduceNe, Int.reduceLT, Int.reduceLE, Int.reduceGT, Int.reduceGE]
  exact fin_ok (Mem.le_refl _) ⟨id3, hid3, rfl, rfl⟩
def txt (l : List UInt8) : Lf := .str ⟨l.toArray⟩
theorem itoa_spec (n : Int) (h0 : -9223372036854775808 ≤ n) (h1 : n ≤ 9223372036854775807) (M : Mem) : XCalls Go.Proofs.Tryd.prog 44 [.l (.int .i64 n)] M fun r M' => r = .l (txt (Lib.itoa n)) ∧ M' = M := by
  refine ⟨by kernel_rfl, fun g w vs hP hA hR => ?_⟩
  obtain ⟨hsz, hA⟩ := hA
  obtain ⟨c1, rfl⟩ : ∃ a, vs = #[a] := by
    obtain ⟨vl⟩ := vs
    match vl, hsz with
    | [a], _ => exact ⟨a, rfl⟩
  have h0' := hA 0 _ _ rfl rfl
  obtain rfl : c1 = .int .i64 n := by cases h0' with | l h => cases h; rfl
  refine (Go.Proofs.Tryd.strconv_Itoa n h0 h1 w ((rel_pow hR hP).is _ (by kernel_rfl))).mono ?_
  rintro e w' ⟨rfl, k, os, rfl⟩
  obtain ⟨e1, hR1⟩ := rel_same hR (Lib.below_grow w.heap.size w (Nat.le_refl _) k os)
  exact ⟨_, _, g, M, rfl, ⟨rfl, rfl⟩, e1, .l (.str _), hR1⟩
end Go.X
