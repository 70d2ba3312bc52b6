/- Texts joined: Ma Tf Mb Mc Md Oc Oe Of Yi Oh Oi Ga Gb Gc Gd Ge Gf Wg Gg Ok Gi Gh. -/
import Derived.Test.YtjhpfaiiknpnmaaY3
set_option linter.unusedVariables false
set_option linter.unusedSimpArgs false
set_option maxHeartbeats 20000000
set_option maxRecDepth 100000
namespace Go.X
open Go.Proofs.Try (prog)

/-- A map's block. -/
def mapB (s : List Pr) : Blk := .cells 98 [[.sl (s.map Pr.row)]] 0

theorem le_seti {M N : Mem} {id : Nat} {b : Blk} (h1 : N id = some b) (h2 : ∀ k bk, k ≠ id → M k = some bk → N k = some bk) : (M.set id b).le N := by
  intro k bk hk
  rw [Mem.set_app] at hk
  by_cases e : id = k
  · rw [if_pos e] at hk
    rw [← e, h1]
    exact hk
  · rw [if_neg e] at hk
    exact h2 k bk (fun h => e h.symm) hk

theorem modelDo_spec (s : List Pr) (hl : s.length ≤ 1000001) (op : Opn) (id : Nat) (M : Mem) (hM : M id = some (mapB s)) :
    XCalls Go.Proofs.Try.prog 41 [.l (.ptr id 0 0), .agg op.row] M fun r M' => r = .agg (doA s op).row ∧ M' = M.set id (mapB (doL s op)) := by
  refine xcalls_intro (rs := [.cell 4 29]) Go.Proofs.Try.func41 rfl (by kernel_rfl) rfl rfl (by kernel_rfl) (by simp) ?_
  simp -implicitDefEqProofs (maxSteps := 1000000) (disch := omega) only [↓xsP, ↓vc_seq, xsQ, xsT, xsR, xsD, ↓reduceIte, reduceCtorEq, eq_self, ne_eq, imp_self, forall_const, Nat.reduceEqDiff, Nat.reduceAdd, Nat.reduceSub, Nat.reduceMul, Nat.reduceLT, Nat.reduceLeDiff, Nat.reduceBEq, Nat.reduceDiv, Nat.reduceMod, Int.reduceToNat, Int.reduceNeg, Int.reduceAdd, Int.reduceSub, Int.reduceMul, Int.reduceEq, Int.reduceNe, Int.reduceLT, Int.reduceLE, Int.reduceGT, Int.reduceGE]
  refine newI_intro fun p3 hp3 => ?_
  have h3 : id < p3 := lt_of_bnd hp3 hM
  simp -implicitDefEqProofs (maxSteps := 1000000) (disch := omega) only [↓xsP, ↓vc_seq, xsQ, xsT, xsR, xsD, ↓reduceIte, reduceCtorEq, eq_self, ne_eq, imp_self, forall_const, Nat.reduceEqDiff, Nat.reduceAdd, Nat.reduceSub, Nat.reduceMul, Nat.reduceLT, Nat.reduceLeDiff, Nat.reduceBEq, Nat.reduceDiv, Nat.reduceMod, Int.reduceToNat, Int.reduceNeg, Int.reduceAdd, Int.reduceSub, Int.reduceMul, Int.reduceEq, Int.reduceNe, Int.reduceLT, Int.reduceLE, Int.reduceGT, Int.reduceGE]
  refine newI_intro fun p4 hp4 => ?_
  obtain ⟨h34, hp4⟩ := bnd_new hp4
  simp -implicitDefEqProofs (maxSteps := 1000000) (disch := omega) only [↓xsP, ↓vc_seq, xsQ, xsT, xsR, xsD, ↓reduceIte, reduceCtorEq, eq_self, ne_eq, imp_self, forall_const, Nat.reduceEqDiff, Nat.reduceAdd, Nat.reduceSub, Nat.reduceMul, Nat.reduceLT, Nat.reduceLeDiff, Nat.reduceBEq, Nat.reduceDiv, Nat.reduceMod, Int.reduceToNat, Int.reduceNeg, Int.reduceAdd, Int.reduceSub, Int.reduceMul, Int.reduceEq, Int.reduceNe, Int.reduceLT, Int.reduceLE, Int.reduceGT, Int.reduceGE]
  refine newI_intro fun p5 hp5 => ?_
  obtain ⟨h45, hp5⟩ := bnd_new hp5
  obtain ⟨h35, hp5⟩ := bnd_new hp5
  simp -implicitDefEqProofs (maxSteps := 1000000) (disch := omega) only [↓xsP, ↓vc_seq, xsQ, xsT, xsR, xsD, ↓reduceIte, reduceCtorEq, eq_self, ne_eq, imp_self, forall_const, Nat.reduceEqDiff, Nat.reduceAdd, Nat.reduceSub, Nat.reduceMul, Nat.reduceLT, Nat.reduceLeDiff, Nat.reduceBEq, Nat.reduceDiv, Nat.reduceMod, Int.reduceToNat, Int.reduceNeg, Int.reduceAdd, Int.reduceSub, Int.reduceMul, Int.reduceEq, Int.reduceNe, Int.reduceLT, Int.reduceLE, Int.reduceGT, Int.reduceGE]
  refine xwrite (fun n0 => [ (12, id), (13, p5)]) [12, 13] [] [[], [], [], [], [], [], [], [], [], [12], [], [], [], []] (by kernel_rfl) (by kernel_rfl) (by kernel_rfl) (by kernel_rfl) (fun n0 hn0 => ⟨rfl, ?_, ?_⟩)
  · exact TOk_cons (.inl (by have := lt_of_bnd hn0 (Mem.set_eq _ p5 _); omega)) (TOk_cons (.inl (lt_of_bnd hn0 (Mem.set_eq _ p5 _))) (TOk_nil _ _))
  · simp -implicitDefEqProofs (maxSteps := 1000000) (disch := omega) only [↓xsP, ↓vc_seq, xsQ, xsT, xsR, xsD, ↓reduceIte, reduceCtorEq, eq_self, ne_eq, imp_self, forall_const, Nat.reduceEqDiff, Nat.reduceAdd, Nat.reduceSub, Nat.reduceMul, Nat.reduceLT, Nat.reduceLeDiff, Nat.reduceBEq, Nat.reduceDiv, Nat.reduceMod, Int.reduceToNat, Int.reduceNeg, Int.reduceAdd, Int.reduceSub, Int.reduceMul, Int.reduceEq, Int.reduceNe, Int.reduceLT, Int.reduceLE, Int.reduceGT, Int.reduceGE, hM, mapB]
    refine wcallI_of (fun M' _ => do_spec s hl op M') ?_
    simp -implicitDefEqProofs (maxSteps := 1000000) (disch := omega) only [↓xsP, ↓vc_seq, xsQ, xsT, xsR, xsD, ↓reduceIte, reduceCtorEq, eq_self, ne_eq, imp_self, forall_const, Nat.reduceEqDiff, Nat.reduceAdd, Nat.reduceSub, Nat.reduceMul, Nat.reduceLT, Nat.reduceLeDiff, Nat.reduceBEq, Nat.reduceDiv, Nat.reduceMod, Int.reduceToNat, Int.reduceNeg, Int.reduceAdd, Int.reduceSub, Int.reduceMul, Int.reduceEq, Int.reduceNe, Int.reduceLT, Int.reduceLE, Int.reduceGT, Int.reduceGE, hM, mapB]
    refine fin_ok (le_seti ?_ fun k bk hk h => ?_) ⟨rfl, rfl⟩
    · simp (disch := omega) only [Mem.set_eq, Mem.set_ne, mapB]
    · have := lt_of_bnd hp3 h
      simp (disch := omega) only [Mem.set_ne, h]

theorem pairs_spec (s : List Pr) (hl : s.length ≤ 1000001) (id : Nat) (M : Mem) (hM : M id = some (mapB s)) :
    XCalls Go.Proofs.Try.prog 44 [.l (.ptr id 0 0)] M fun r M' => r = .l (.sl (s.map Pr.row)) ∧ M' = M := by
  refine xcalls_intro (rs := [.tmp 2]) Go.Proofs.Try.func44 rfl (by kernel_rfl) rfl rfl (by kernel_rfl) (by simp) ?_
  simp -implicitDefEqProofs (maxSteps := 1000000) (disch := omega) only [↓xsP, ↓vc_seq, xsQ, xsT, xsR, xsD, ↓reduceIte, reduceCtorEq, eq_self, ne_eq, imp_self, forall_const, Nat.reduceEqDiff, Nat.reduceAdd, Nat.reduceSub, Nat.reduceMul, Nat.reduceLT, Nat.reduceLeDiff, Nat.reduceBEq, Nat.reduceDiv, Nat.reduceMod, Int.reduceToNat, Int.reduceNeg, Int.reduceAdd, Int.reduceSub, Int.reduceMul, Int.reduceEq, Int.reduceNe, Int.reduceLT, Int.reduceLE, Int.reduceGT, Int.reduceGE, hM, mapB]
  refine call_of (clone_spec s hl M) ?_
  simp -implicitDefEqProofs (maxSteps := 1000000) (disch := omega) only [↓xsP, ↓vc_seq, xsQ, xsT, xsR, xsD, ↓reduceIte, reduceCtorEq, eq_self, ne_eq, imp_self, forall_const, Nat.reduceEqDiff, Nat.reduceAdd, Nat.reduceSub, Nat.reduceMul, Nat.reduceLT, Nat.reduceLeDiff, Nat.reduceBEq, Nat.reduceDiv, Nat.reduceMod, Int.reduceToNat, Int.reduceNeg, Int.reduceAdd, Int.reduceSub, Int.reduceMul, Int.reduceEq, Int.reduceNe, Int.reduceLT, Int.reduceLE, Int.reduceGT, Int.reduceGE]
  exact fin_ok (Mem.le_refl _) ⟨rfl, rfl⟩
def putOp (p : Pr) : Opn := ⟨1, p.key, 0, p.val⟩
noncomputable def putL (l : List Pr) : List Pr := l.foldl (fun s p => doL s (putOp p)) []
theorem putL_snoc (l : List Pr) (p : Pr) : putL (l ++ [p]) = doL (putL l) (putOp p) := by simp [putL, List.foldl_append]
theorem putL_take (l : List Pr) {i : Nat} (hi : i < l.length) : putL (l.take (i + 1)) = doL (putL (l.take i)) (putOp (l.getD i default)) := by
  have : l.take (i + 1) = l.take i ++ [l.getD i default] := by
    rw [List.take_add_one, List.getD_eq_getElem?_getD, List.getElem?_eq_getElem hi]
    rfl
  rw [this, putL_snoc]
theorem putL_len (l : List Pr) : (putL l).length ≤ l.length := by
  have key : ∀ (l s : List Pr), (l.foldl (fun s p => doL s (putOp p)) s).length ≤ s.length + l.length := by
    intro l
    induction l with
    | nil => intro s; simp
    | cons p r ih =>
      intro s
      have h1 := ih (doL s (putOp p))
      have h2 := doL_len s (putOp p)
      simp only [List.foldl_cons, List.length_cons]
      omega
  have := key l []
  rw [putL]
  simpa using this
theorem new_spec (l : List Pr) (hl : l.length ≤ 1000000) (M : Mem) :
    XCalls Go.Proofs.Try.prog 45 [.l (.sl (l.map Pr.row))] M fun r M' => ∃ id, (∀ j, id ≤ j → M j = none) ∧ r = .l (.ptr id 0 0) ∧ M' = M.set id (mapB (putL l)) := by
  refine xcalls_intro (rs := [.tmp 2]) Go.Proofs.Try.func45 rfl (by kernel_rfl) rfl rfl (by kernel_rfl) (by simp) ?_
  simp -implicitDefEqProofs (maxSteps := 1000000) (disch := omega) only [↓xsP, ↓vc_seq, xsQ, xsT, xsR, xsD, ↓reduceIte, reduceCtorEq, eq_self, ne_eq, imp_self, forall_const, Nat.reduceEqDiff, Nat.reduceAdd, Nat.reduceSub, Nat.reduceMul, Nat.reduceLT, Nat.reduceLeDiff, Nat.reduceBEq, Nat.reduceDiv, Nat.reduceMod, Int.reduceToNat, Int.reduceNeg, Int.reduceAdd, Int.reduceSub, Int.reduceMul, Int.reduceEq, Int.reduceNe, Int.reduceLT, Int.reduceLE, Int.reduceGT, Int.reduceGE]
  refine newI_intro fun id hid => ?_
  simp -implicitDefEqProofs (maxSteps := 1000000) (disch := omega) only [↓xsP, ↓vc_seq, xsQ, xsT, xsR, xsD, ↓reduceIte, reduceCtorEq, eq_self, ne_eq, imp_self, forall_const, Nat.reduceEqDiff, Nat.reduceAdd, Nat.reduceSub, Nat.reduceMul, Nat.reduceLT, Nat.reduceLeDiff, Nat.reduceBEq, Nat.reduceDiv, Nat.reduceMod, Int.reduceToNat, Int.reduceNeg, Int.reduceAdd, Int.reduceSub, Int.reduceMul, Int.reduceEq, Int.reduceNe, Int.reduceLT, Int.reduceLE, Int.reduceGT, Int.reduceGE]
  refine loopI_gs (GStep.wk (Mem.set_eq _ _ _)) ?_
  simp -implicitDefEqProofs (maxSteps := 1000000) (disch := omega) only [↓xsP, ↓vc_seq, xsQ, xsT, xsR, xsD, ↓reduceIte, reduceCtorEq, eq_self, ne_eq, imp_self, forall_const, Nat.reduceEqDiff, Nat.reduceAdd, Nat.reduceSub, Nat.reduceMul, Nat.reduceLT, Nat.reduceLeDiff, Nat.reduceBEq, Nat.reduceDiv, Nat.reduceMod, Int.reduceToNat, Int.reduceNeg, Int.reduceAdd, Int.reduceSub, Int.reduceMul, Int.reduceEq, Int.reduceNe, Int.reduceLT, Int.reduceLE, Int.reduceGT, Int.reduceGE]
  refine xloopG (by kernel_rfl) (fun k fr M' => ∃ i : Nat, i ≤ l.length ∧ k = l.length - i ∧ fr 3 = .l (.ptr id 0 0) ∧ fr 8 = .l (.sl (l.map Pr.row)) ∧ fr 9 = .l (.int .i64 l.length) ∧ fr 10 = .l (.int .i64 i) ∧ M' = M.set id (mapB (putL (l.take i)))) l.length ?_ ?_
  · refine ⟨0, Nat.zero_le _, rfl, ?_, ?_, ?_, ?_, ?_⟩
    · simp -implicitDefEqProofs (maxSteps := 1000000) (disch := omega) only [↓xsP, ↓vc_seq, xsQ, xsT, xsR, xsD, ↓reduceIte, reduceCtorEq, eq_self, ne_eq, imp_self, forall_const, Nat.reduceEqDiff, Nat.reduceAdd, Nat.reduceSub, Nat.reduceMul, Nat.reduceLT, Nat.reduceLeDiff, Nat.reduceBEq, Nat.reduceDiv, Nat.reduceMod, Int.reduceToNat, Int.reduceNeg, Int.reduceAdd, Int.reduceSub, Int.reduceMul, Int.reduceEq, Int.reduceNe, Int.reduceLT, Int.reduceLE, Int.reduceGT, Int.reduceGE]
    · simp -implicitDefEqProofs (maxSteps := 1000000) (disch := omega) only [↓xsP, ↓vc_seq, xsQ, xsT, xsR, xsD, ↓reduceIte, reduceCtorEq, eq_self, ne_eq, imp_self, forall_const, Nat.reduceEqDiff, Nat.reduceAdd, Nat.reduceSub, Nat.reduceMul, Nat.reduceLT, Nat.reduceLeDiff, Nat.reduceBEq, Nat.reduceDiv, Nat.reduceMod, Int.reduceToNat, Int.reduceNeg, Int.reduceAdd, Int.reduceSub, Int.reduceMul, Int.reduceEq, Int.reduceNe, Int.reduceLT, Int.reduceLE, Int.reduceGT, Int.reduceGE]
    · simp -implicitDefEqProofs (maxSteps := 1000000) (disch := omega) only [↓xsP, ↓vc_seq, xsQ, xsT, xsR, xsD, ↓reduceIte, reduceCtorEq, eq_self, ne_eq, imp_self, forall_const, Nat.reduceEqDiff, Nat.reduceAdd, Nat.reduceSub, Nat.reduceMul, Nat.reduceLT, Nat.reduceLeDiff, Nat.reduceBEq, Nat.reduceDiv, Nat.reduceMod, Int.reduceToNat, Int.reduceNeg, Int.reduceAdd, Int.reduceSub, Int.reduceMul, Int.reduceEq, Int.reduceNe, Int.reduceLT, Int.reduceLE, Int.reduceGT, Int.reduceGE]
    · simp -implicitDefEqProofs (maxSteps := 1000000) (disch := omega) only [↓xsP, ↓vc_seq, xsQ, xsT, xsR, xsD, ↓reduceIte, reduceCtorEq, eq_self, ne_eq, imp_self, forall_const, Nat.reduceEqDiff, Nat.reduceAdd, Nat.reduceSub, Nat.reduceMul, Nat.reduceLT, Nat.reduceLeDiff, Nat.reduceBEq, Nat.reduceDiv, Nat.reduceMod, Int.reduceToNat, Int.reduceNeg, Int.reduceAdd, Int.reduceSub, Int.reduceMul, Int.reduceEq, Int.reduceNe, Int.reduceLT, Int.reduceLE, Int.reduceGT, Int.reduceGE, Int.ofNat_zero]
    · rw [List.take_zero]
      rfl
  · rintro k fr M' ⟨i, hi, rfl, h3, h8, h9, h10, rfl⟩
    simp -implicitDefEqProofs (maxSteps := 1000000) (disch := omega) only [↓xsP, ↓vc_seq, xsQ, xsT, xsR, xsD, ↓reduceIte, reduceCtorEq, eq_self, ne_eq, imp_self, forall_const, Nat.reduceEqDiff, Nat.reduceAdd, Nat.reduceSub, Nat.reduceMul, Nat.reduceLT, Nat.reduceLeDiff, Nat.reduceBEq, Nat.reduceDiv, Nat.reduceMod, Int.reduceToNat, Int.reduceNeg, Int.reduceAdd, Int.reduceSub, Int.reduceMul, Int.reduceEq, Int.reduceNe, Int.reduceLT, Int.reduceLE, Int.reduceGT, Int.reduceGE, h3, h8, h9, h10]
    refine condI_prop (fun hp => ?_) (fun hp => ?_)
    · have hi' : i < l.length := by omega
      simp -implicitDefEqProofs (maxSteps := 1000000) (disch := omega) only [↓xsP, ↓vc_seq, xsQ, xsT, xsR, xsD, ↓reduceIte, reduceCtorEq, eq_self, ne_eq, imp_self, forall_const, Nat.reduceEqDiff, Nat.reduceAdd, Nat.reduceSub, Nat.reduceMul, Nat.reduceLT, Nat.reduceLeDiff, Nat.reduceBEq, Nat.reduceDiv, Nat.reduceMod, Int.reduceToNat, Int.reduceNeg, Int.reduceAdd, Int.reduceSub, Int.reduceMul, Int.reduceEq, Int.reduceNe, Int.reduceLT, Int.reduceLE, Int.reduceGT, Int.reduceGE, h3, h8, h9, h10]
      refine newI_intro fun p5 hp5 => ?_
      have hg : l[i]? = some (l.getD i default) := by rw [List.getD_eq_getElem?_getD, List.getElem?_eq_getElem hi']; rfl
      generalize hq : l.getD i default = q at hg
      simp -implicitDefEqProofs (maxSteps := 1000000) (disch := omega) only [↓xsP, ↓vc_seq, xsQ, xsT, xsR, xsD, ↓reduceIte, reduceCtorEq, eq_self, ne_eq, imp_self, forall_const, Nat.reduceEqDiff, Nat.reduceAdd, Nat.reduceSub, Nat.reduceMul, Nat.reduceLT, Nat.reduceLeDiff, Nat.reduceBEq, Nat.reduceDiv, Nat.reduceMod, Int.reduceToNat, Int.reduceNeg, Int.reduceAdd, Int.reduceSub, Int.reduceMul, Int.reduceEq, Int.reduceNe, Int.reduceLT, Int.reduceLE, Int.reduceGT, Int.reduceGE, h3, h8, h9, h10, hg]
      refine callI_of ((modelDo_spec (putL (l.take i)) (by have := putL_len (l.take i); rw [List.length_take] at this; omega) (putOp q) id _ ?_).mono ?_)
      · have h5 := lt_of_bnd hp5 (Mem.set_eq _ _ _)
        simp (disch := omega) only [Mem.set_eq, Mem.set_ne]
      · rintro _ _ ⟨rfl, rfl⟩
        have h5 := lt_of_bnd hp5 (Mem.set_eq _ _ _)
        have hpM := (bnd_new hp5).2
        simp -implicitDefEqProofs (maxSteps := 1000000) (disch := omega) only [↓xsP, ↓vc_seq, xsQ, xsT, xsR, xsD, ↓reduceIte, reduceCtorEq, eq_self, ne_eq, imp_self, forall_const, Nat.reduceEqDiff, Nat.reduceAdd, Nat.reduceSub, Nat.reduceMul, Nat.reduceLT, Nat.reduceLeDiff, Nat.reduceBEq, Nat.reduceDiv, Nat.reduceMod, Int.reduceToNat, Int.reduceNeg, Int.reduceAdd, Int.reduceSub, Int.reduceMul, Int.reduceEq, Int.reduceNe, Int.reduceLT, Int.reduceLE, Int.reduceGT, Int.reduceGE, h3, h8, h9, h10]
        refine ⟨_, _, ?_, GStep.le (le_seti (N := _) (b := mapB (putL (l.take (i + 1)))) (M := M) ?_ fun k bk hk h => ?_), i + 1, by omega, rfl, rfl, rfl⟩
        · omega
        · rw [putL_take _ hi', hq, Mem.set_eq]
        · have := lt_of_bnd hid h
          simp (disch := omega) only [Mem.set_ne, h]
    · have hi' : i = l.length := by omega
      subst hi'
      simp -implicitDefEqProofs (maxSteps := 1000000) (disch := omega) only [↓xsP, ↓vc_seq, xsQ, xsT, xsR, xsD, ↓reduceIte, reduceCtorEq, eq_self, ne_eq, imp_self, forall_const, Nat.reduceEqDiff, Nat.reduceAdd, Nat.reduceSub, Nat.reduceMul, Nat.reduceLT, Nat.reduceLeDiff, Nat.reduceBEq, Nat.reduceDiv, Nat.reduceMod, Int.reduceToNat, Int.reduceNeg, Int.reduceAdd, Int.reduceSub, Int.reduceMul, Int.reduceEq, Int.reduceNe, Int.reduceLT, Int.reduceLE, Int.reduceGT, Int.reduceGE, h3]
      refine fin_ok (Mem.le_refl _) ⟨id, hid, rfl, ?_⟩
      rw [List.take_length]

/-- A slice of operations, kept or of a live block. -/
def OpsIs (M : Mem) (s : Lf) (l : List Opn) : Prop := ∃ ido keep, (s = .sl (l.map Opn.row) ∧ True) ∨ (s = .ms ido 0 l.length ∧ M ido = some (.cells 23 (l.map Opn.row) keep))
theorem OpsIs.sl (M : Mem) (l : List Opn) : OpsIs M (.sl (l.map Opn.row)) l := ⟨0, 0, .inl ⟨rfl, trivial⟩⟩
theorem OpsIs.ms {M : Mem} {l : List Opn} {id n keep : Nat} {rows : List (List Lf)} (h : M id = some (.cells 23 rows keep)) (hr : rows = l.map Opn.row) (hn : n = l.length) : OpsIs M (.ms id 0 n) l := ⟨id, keep, .inr ⟨by rw [hn], by rw [h, hr]⟩⟩
theorem take_snoc {α : Type} [Inhabited α] (l : List α) {i : Nat} (hi : i < l.length) : l.take (i + 1) = l.take i ++ [l.getD i default] := by
  rw [List.take_add_one, List.getD_eq_getElem?_getD, List.getElem?_eq_getElem hi]
  rfl
theorem asc1 (p : Pr) : Asc [p] := by simp [Asc]
end Go.X
set_option linter.unusedVariables false
set_option maxRecDepth 100000
namespace Go.X

theorem putL_asc (l : List Pr) : Asc (putL l) := by
  have key : ∀ (l s : List Pr), Asc s → Asc (l.foldl (fun s p => doL s (putOp p)) s) := by
    intro l
    induction l with
    | nil => intro s h; exact h
    | cons p r ih => intro s h; exact ih _ (doL_asc _ h)
  exact key l [] (by simp [Asc])
theorem put_look {s : List Pr} (h : Asc s) (p : Pr) (k : Int) : look (doL s (putOp p)) k = if k = p.key then some p.val else look s k := by
  rw [doL_look h (by simp [mayOpB, putOp]) (by simp [putOp]), upd1.eq_def]
  simp [putOp]
/-- The last value of a key. -/
def lastV (k : Int) (o : Option Int) (l : List Pr) : Option Int := l.foldl (fun o p => if k = p.key then some p.val else o) o
theorem puts_look (k : Int) : ∀ (l s : List Pr), Asc s → look (l.foldl (fun s p => doL s (putOp p)) s) k = lastV k (look s k) l
  | [], s, _ => rfl
  | p :: r, s, h => by
    rw [List.foldl_cons, puts_look k r _ (doL_asc _ h), put_look h]
    rfl
theorem putL_look (l : List Pr) (k : Int) : look (putL l) k = lastV k none l := puts_look k l [] (by simp [Asc])
end Go.X
set_option linter.unusedVariables false
set_option linter.unusedSimpArgs false
set_option maxHeartbeats 20000000
set_option maxRecDepth 100000
namespace Go.X
open Go.Proofs.Try (prog)

/-- A row of pairs that is being made by append: its slice and the memory. -/
def OutP (M : Mem) (v : AV) (M' : Mem) (rows : List Pr) : Prop :=
  (rows = [] ∧ v = .l .nils ∧ M' = M) ∨ ∃ idO, (∀ j, idO ≤ j → M j = none) ∧ v = .l (.ms idO 0 rows.length) ∧ M' = M.set idO (.cells 26 (rows.map Pr.row) 0)
theorem OutP.nil (M : Mem) : OutP M (.l .nils) M [] := .inl ⟨rfl, rfl, rfl⟩
theorem OutP.base {M M' : Mem} {v : AV} {rows : List Pr} (h : OutP M v M' rows) : M.le M' := by
  rcases h with ⟨_, _, rfl⟩ | ⟨idO, hO, _, rfl⟩
  · exact Mem.le_refl _
  · exact le_new (Mem.le_refl _) hO
theorem le_none {M N : Mem} (h : M.le N) {n : Nat} (hn : ∀ j, n ≤ j → N j = none) : ∀ j, n ≤ j → M j = none := fun j hj => by
  cases hq : M j with
  | none => rfl
  | some b => have := h _ _ hq; rw [hn j hj] at this; cases this
theorem OutP.val {M M' : Mem} {v : AV} {rows : List Pr} (h : OutP M v M' rows) : ∃ s, v = .l s := by
  rcases h with ⟨_, rfl, _⟩ | ⟨idO, _, rfl, _⟩
  · exact ⟨_, rfl⟩
  · exact ⟨_, rfl⟩
theorem app_out {M M' N : Mem} {v : AV} {rows : List Pr} {p : Pr} {pb : Nat} (h : OutP M v M' rows) (hle : M'.le N) (hb : ∀ j, pb ≤ j → N j = none) (hlen : rows.length ≤ 1000001) {K : AV → Mem → Prop}
    (hc : ∀ v' N' M2, OutP M v' M2 (rows ++ [p]) → M2.le N' → (∀ k bk, N k = some bk → M' k = none → N' k = some bk) → K v' N') :
    @appI Go.Proofs.Try.prog (N.set pb (.cells 26 [p.row] 0)) 27 27 v (.l (.ms pb 0 1)) ⟨K⟩ := by
  have hMM := h.base
  rcases h with ⟨rfl, rfl, rfl⟩ | ⟨idO, hO, rfl, rfl⟩
  · refine app_nils _ _ _ _ 26 _ _ ti_27 rfl ti_26 (by kernel_rfl) (by decide) _ [p.row] ?_ ?_ ?_ ?_ ?_
    · simp -implicitDefEqProofs (maxSteps := 1000000) (disch := omega) only [↓xsP, ↓vc_seq, xsQ, xsT, xsR, xsD, ↓reduceIte, reduceCtorEq, eq_self, ne_eq, imp_self, forall_const, Nat.reduceEqDiff, Nat.reduceAdd, Nat.reduceSub, Nat.reduceMul, Nat.reduceLT, Nat.reduceLeDiff, Nat.reduceBEq, Nat.reduceDiv, Nat.reduceMod, Int.reduceToNat, Int.reduceNeg, Int.reduceAdd, Int.reduceSub, Int.reduceMul, Int.reduceEq, Int.reduceNe, Int.reduceLT, Int.reduceLE, Int.reduceGT, Int.reduceGE]
    · simp
    · simp
    · simp
    · intro _ idA hidA
      obtain ⟨hbA, hA⟩ := bnd_new hidA
      have hM := le_none hle hA
      refine hc _ _ _ (.inr ⟨idA, hM, rfl, rfl⟩) (le_seti (Mem.set_eq _ _ _) fun k bk hk hh => ?_) fun k bk hk _ => ?_
      · have h1 := hle _ _ hh
        have := lt_of_bnd hb h1
        have := lt_of_bnd hA h1
        rw [Mem.set_ne _ _ _ _ (by omega), Mem.set_ne _ _ _ _ (by omega)]
        exact h1
      · have := lt_of_bnd hb hk
        have := lt_of_bnd hA hk
        rw [Mem.set_ne _ _ _ _ (by omega), Mem.set_ne _ _ _ _ (by omega)]
        exact hk
  · have hNO : N idO = some (.cells 26 (rows.map Pr.row) 0) := hle _ _ (Mem.set_eq _ _ _)
    have hOb := lt_of_bnd hb hNO
    refine app_ms _ _ _ _ 26 _ _ ti_27 rfl ti_26 (by kernel_rfl) (by decide) idO rows.length _ (rows := rows.map Pr.row) (keep := 0) [p.row] ?_ ?_ ?_ (Nat.zero_le _) ?_ ?_ ?_
    · rw [Mem.set_ne _ _ _ _ (by omega)]; exact hNO
    · simp -implicitDefEqProofs (maxSteps := 1000000) (disch := omega) only [↓xsP, ↓vc_seq, xsQ, xsT, xsR, xsD, ↓reduceIte, reduceCtorEq, eq_self, ne_eq, imp_self, forall_const, Nat.reduceEqDiff, Nat.reduceAdd, Nat.reduceSub, Nat.reduceMul, Nat.reduceLT, Nat.reduceLeDiff, Nat.reduceBEq, Nat.reduceDiv, Nat.reduceMod, Int.reduceToNat, Int.reduceNeg, Int.reduceAdd, Int.reduceSub, Int.reduceMul, Int.reduceEq, Int.reduceNe, Int.reduceLT, Int.reduceLE, Int.reduceGT, Int.reduceGE]
    · simp
    · exact Nat.le_trans (Nat.mul_le_mul_right _ (show rows.length + [p.row].length ≤ 1000002 by simp; omega)) (by decide)
    · simp
      omega
    · intro idA hidA
      obtain ⟨hbA, hA⟩ := bnd_new hidA
      have hM := le_none hMM (le_none hle hA)
      have hOA := lt_of_bnd hA hNO
      refine hc _ _ _ (.inr ⟨idA, hM, by simp, rfl⟩) (le_seti ?_ fun k bk hk hh => ?_) fun k bk hk hn => ?_
      · rw [Mem.set_eq, List.take_of_length_le (by simp), List.map_append]
        rfl
      · have h0 := lt_of_bnd hO hh
        have h1 := hle _ _ (hMM _ _ hh)
        have := lt_of_bnd hb h1
        have := lt_of_bnd hA h1
        rw [Mem.set_ne _ _ _ _ (by omega), Mem.del_ne _ _ _ (by omega), Mem.set_ne _ _ _ _ (by omega)]
        exact h1
      · have hne : idO ≠ k := fun e => by subst e; rw [Mem.set_eq] at hn; cases hn
        have := lt_of_bnd hb hk
        have := lt_of_bnd hA hk
        rw [Mem.set_ne _ _ _ _ (by omega), Mem.del_ne _ _ _ hne, Mem.set_ne _ _ _ _ (by omega)]
        exact hk
theorem fin_out {M M' N : Mem} {v : AV} {rows : List Pr} {K : AV → Mem → Prop} (h : OutP M v M' rows) (hle : M'.le N) {M0 : Mem} (h0 : M0.le M) (hK : K (.l (.sl (rows.map Pr.row))) M0) : @finI Go.Proofs.Try.prog v N ⟨K⟩ := by
  refine finI_of ?_
  rcases h with ⟨rfl, rfl, rfl⟩ | ⟨idO, hO, rfl, rfl⟩
  · exact XFin.wk (XFin.le (fun k bk hk => hle _ _ (h0 _ _ hk)) hK)
  · refine XFin.frz idO (hle _ _ (Mem.set_eq _ _ _)) (XFin.le (fun k bk hk => ?_) (M' := M0) ?_)
    · have hk' := h0 _ _ hk
      have := lt_of_bnd hO hk'
      rw [Mem.set_ne _ _ _ _ (by omega)]
      exact hle _ _ (le_new (Mem.le_refl _) hO _ _ hk')
    · have e : frzA idO (rows.map Pr.row) (.l (.ms idO 0 rows.length)) = .l (.sl (rows.map Pr.row)) := by simp [frzA, frz1, frzL, List.take_of_length_le]
      rw [e]
      exact hK

theorem filter_take {q : Pr → Bool} {l : List Pr} {i : Nat} (hi : i < l.length) : (l.take (i + 1)).filter q = if q (l.getD i default) then (l.take i).filter q ++ [l.getD i default] else (l.take i).filter q := by
  rw [take_snoc l hi, List.filter_append]
  generalize l.getD i default = x
  cases h : q x
  · rw [List.filter_cons, h]; simp
  · rw [List.filter_cons, h]; simp
theorem filter_take_len (q : Pr → Bool) (l : List Pr) (i : Nat) : ((l.take i).filter q).length ≤ l.length := by
  have h1 := List.length_filter_le q (l.take i)
  rw [List.length_take] at h1
  omega

theorem without_spec (l : List Pr) (hl : l.length ≤ 1000001) (key : Int) (M : Mem) :
    XCalls Go.Proofs.Try.prog 47 [.l (.sl (l.map Pr.row)), .l (.int .i64 key)] M fun r M' => r = .l (.sl ((l.filter fun p => decide (p.key ≠ key)).map Pr.row)) ∧ M' = M := by
  refine xcalls_intro (rs := [.tmp 4]) Go.Proofs.Try.func47 rfl (by kernel_rfl) rfl rfl (by kernel_rfl) (by simp) ?_
  simp -implicitDefEqProofs (maxSteps := 1000000) (disch := omega) only [↓xsP, ↓vc_seq, xsQ, xsT, xsR, xsD, ↓reduceIte, reduceCtorEq, eq_self, ne_eq, imp_self, forall_const, Nat.reduceEqDiff, Nat.reduceAdd, Nat.reduceSub, Nat.reduceMul, Nat.reduceLT, Nat.reduceLeDiff, Nat.reduceBEq, Nat.reduceDiv, Nat.reduceMod, Int.reduceToNat, Int.reduceNeg, Int.reduceAdd, Int.reduceSub, Int.reduceMul, Int.reduceEq, Int.reduceNe, Int.reduceLT, Int.reduceLE, Int.reduceGT, Int.reduceGE]
  refine loopI_of (xloop (by kernel_rfl) (fun k fr M' => ∃ i : Nat, i ≤ l.length ∧ k = l.length - i ∧ fr 1 = .l (.int .i64 key) ∧ fr 8 = .l (.sl (l.map Pr.row)) ∧ fr 9 = .l (.int .i64 l.length) ∧ fr 10 = .l (.int .i64 i) ∧ OutP M (fr 5) M' ((l.take i).filter fun p => decide (p.key ≠ key))) l.length ?_ ?_)
  · refine ⟨0, Nat.zero_le _, rfl, by simp -implicitDefEqProofs (maxSteps := 1000000) (disch := omega) only [↓xsP, ↓vc_seq, xsQ, xsT, xsR, xsD, ↓reduceIte, reduceCtorEq, eq_self, ne_eq, imp_self, forall_const, Nat.reduceEqDiff, Nat.reduceAdd, Nat.reduceSub, Nat.reduceMul, Nat.reduceLT, Nat.reduceLeDiff, Nat.reduceBEq, Nat.reduceDiv, Nat.reduceMod, Int.reduceToNat, Int.reduceNeg, Int.reduceAdd, Int.reduceSub, Int.reduceMul, Int.reduceEq, Int.reduceNe, Int.reduceLT, Int.reduceLE, Int.reduceGT, Int.reduceGE], by simp -implicitDefEqProofs (maxSteps := 1000000) (disch := omega) only [↓xsP, ↓vc_seq, xsQ, xsT, xsR, xsD, ↓reduceIte, reduceCtorEq, eq_self, ne_eq, imp_self, forall_const, Nat.reduceEqDiff, Nat.reduceAdd, Nat.reduceSub, Nat.reduceMul, Nat.reduceLT, Nat.reduceLeDiff, Nat.reduceBEq, Nat.reduceDiv, Nat.reduceMod, Int.reduceToNat, Int.reduceNeg, Int.reduceAdd, Int.reduceSub, Int.reduceMul, Int.reduceEq, Int.reduceNe, Int.reduceLT, Int.reduceLE, Int.reduceGT, Int.reduceGE], by simp -implicitDefEqProofs (maxSteps := 1000000) (disch := omega) only [↓xsP, ↓vc_seq, xsQ, xsT, xsR, xsD, ↓reduceIte, reduceCtorEq, eq_self, ne_eq, imp_self, forall_const, Nat.reduceEqDiff, Nat.reduceAdd, Nat.reduceSub, Nat.reduceMul, Nat.reduceLT, Nat.reduceLeDiff, Nat.reduceBEq, Nat.reduceDiv, Nat.reduceMod, Int.reduceToNat, Int.reduceNeg, Int.reduceAdd, Int.reduceSub, Int.reduceMul, Int.reduceEq, Int.reduceNe, Int.reduceLT, Int.reduceLE, Int.reduceGT, Int.reduceGE], by simp -implicitDefEqProofs (maxSteps := 1000000) (disch := omega) only [↓xsP, ↓vc_seq, xsQ, xsT, xsR, xsD, ↓reduceIte, reduceCtorEq, eq_self, ne_eq, imp_self, forall_const, Nat.reduceEqDiff, Nat.reduceAdd, Nat.reduceSub, Nat.reduceMul, Nat.reduceLT, Nat.reduceLeDiff, Nat.reduceBEq, Nat.reduceDiv, Nat.reduceMod, Int.reduceToNat, Int.reduceNeg, Int.reduceAdd, Int.reduceSub, Int.reduceMul, Int.reduceEq, Int.reduceNe, Int.reduceLT, Int.reduceLE, Int.reduceGT, Int.reduceGE, Int.cast_ofNat_Int], ?_⟩
    simp -implicitDefEqProofs (maxSteps := 1000000) (disch := omega) only [↓xsP, ↓vc_seq, xsQ, xsT, xsR, xsD, ↓reduceIte, reduceCtorEq, eq_self, ne_eq, imp_self, forall_const, Nat.reduceEqDiff, Nat.reduceAdd, Nat.reduceSub, Nat.reduceMul, Nat.reduceLT, Nat.reduceLeDiff, Nat.reduceBEq, Nat.reduceDiv, Nat.reduceMod, Int.reduceToNat, Int.reduceNeg, Int.reduceAdd, Int.reduceSub, Int.reduceMul, Int.reduceEq, Int.reduceNe, Int.reduceLT, Int.reduceLE, Int.reduceGT, Int.reduceGE]
    exact OutP.nil M
  · rintro k fr M' ⟨i, hi, rfl, h1, h8, h9, h10, hO⟩
    obtain ⟨s5, h5⟩ := hO.val
    rw [h5] at hO
    simp -implicitDefEqProofs (maxSteps := 1000000) (disch := omega) only [↓xsP, ↓vc_seq, xsQ, xsT, xsR, xsD, ↓reduceIte, reduceCtorEq, eq_self, ne_eq, imp_self, forall_const, Nat.reduceEqDiff, Nat.reduceAdd, Nat.reduceSub, Nat.reduceMul, Nat.reduceLT, Nat.reduceLeDiff, Nat.reduceBEq, Nat.reduceDiv, Nat.reduceMod, Int.reduceToNat, Int.reduceNeg, Int.reduceAdd, Int.reduceSub, Int.reduceMul, Int.reduceEq, Int.reduceNe, Int.reduceLT, Int.reduceLE, Int.reduceGT, Int.reduceGE, h5, h1, h8, h9, h10]
    refine condI_prop (fun hlt => ?_) (fun hlt => ?_)
    · have hi' : i < l.length := by omega
      have hft := filter_take (q := fun p => decide (p.key ≠ key)) hi'
      have hfl := filter_take_len (fun p => decide (p.key ≠ key)) l i
      obtain ⟨q, hq⟩ : ∃ q, l.getD i default = q := ⟨_, rfl⟩
      rw [hq] at hft
      simp -implicitDefEqProofs (maxSteps := 1000000) (disch := omega) only [↓xsP, ↓vc_seq, xsQ, xsT, xsR, xsD, ↓reduceIte, reduceCtorEq, eq_self, ne_eq, imp_self, forall_const, Nat.reduceEqDiff, Nat.reduceAdd, Nat.reduceSub, Nat.reduceMul, Nat.reduceLT, Nat.reduceLeDiff, Nat.reduceBEq, Nat.reduceDiv, Nat.reduceMod, Int.reduceToNat, Int.reduceNeg, Int.reduceAdd, Int.reduceSub, Int.reduceMul, Int.reduceEq, Int.reduceNe, Int.reduceLT, Int.reduceLE, Int.reduceGT, Int.reduceGE, h5, h1, h8, h9, h10, hq]
      refine newI_intro fun p7 hp7 => ?_
      simp -implicitDefEqProofs (maxSteps := 1000000) (disch := omega) only [↓xsP, ↓vc_seq, xsQ, xsT, xsR, xsD, ↓reduceIte, reduceCtorEq, eq_self, ne_eq, imp_self, forall_const, Nat.reduceEqDiff, Nat.reduceAdd, Nat.reduceSub, Nat.reduceMul, Nat.reduceLT, Nat.reduceLeDiff, Nat.reduceBEq, Nat.reduceDiv, Nat.reduceMod, Int.reduceToNat, Int.reduceNeg, Int.reduceAdd, Int.reduceSub, Int.reduceMul, Int.reduceEq, Int.reduceNe, Int.reduceLT, Int.reduceLE, Int.reduceGT, Int.reduceGE, h5, h1, h8, h9, h10, hq]
      refine condI_prop (fun hk => ?_) (fun hk => ?_)
      · rw [if_pos (by simpa using hk)] at hft
        simp -implicitDefEqProofs (maxSteps := 1000000) (disch := omega) only [↓xsP, ↓vc_seq, xsQ, xsT, xsR, xsD, ↓reduceIte, reduceCtorEq, eq_self, ne_eq, imp_self, forall_const, Nat.reduceEqDiff, Nat.reduceAdd, Nat.reduceSub, Nat.reduceMul, Nat.reduceLT, Nat.reduceLeDiff, Nat.reduceBEq, Nat.reduceDiv, Nat.reduceMod, Int.reduceToNat, Int.reduceNeg, Int.reduceAdd, Int.reduceSub, Int.reduceMul, Int.reduceEq, Int.reduceNe, Int.reduceLT, Int.reduceLE, Int.reduceGT, Int.reduceGE, h5, h1, h8, h9, h10, hq]
        refine newI_intro fun pb hpb => ?_
        simp -implicitDefEqProofs (maxSteps := 1000000) (disch := omega) only [↓xsP, ↓vc_seq, xsQ, xsT, xsR, xsD, ↓reduceIte, reduceCtorEq, eq_self, ne_eq, imp_self, forall_const, Nat.reduceEqDiff, Nat.reduceAdd, Nat.reduceSub, Nat.reduceMul, Nat.reduceLT, Nat.reduceLeDiff, Nat.reduceBEq, Nat.reduceDiv, Nat.reduceMod, Int.reduceToNat, Int.reduceNeg, Int.reduceAdd, Int.reduceSub, Int.reduceMul, Int.reduceEq, Int.reduceNe, Int.reduceLT, Int.reduceLE, Int.reduceGT, Int.reduceGE, h5, h1, h8, h9, h10, hq]
        refine app_out (p := q) hO (le_new (Mem.le_refl _) hp7) hpb (by omega) fun v' N' M2 hO2 hle2 _ => ?_
        obtain ⟨s5', rfl⟩ := hO2.val
        simp -implicitDefEqProofs (maxSteps := 1000000) (disch := omega) only [↓xsP, ↓vc_seq, xsQ, xsT, xsR, xsD, ↓reduceIte, reduceCtorEq, eq_self, ne_eq, imp_self, forall_const, Nat.reduceEqDiff, Nat.reduceAdd, Nat.reduceSub, Nat.reduceMul, Nat.reduceLT, Nat.reduceLeDiff, Nat.reduceBEq, Nat.reduceDiv, Nat.reduceMod, Int.reduceToNat, Int.reduceNeg, Int.reduceAdd, Int.reduceSub, Int.reduceMul, Int.reduceEq, Int.reduceNe, Int.reduceLT, Int.reduceLE, Int.reduceGT, Int.reduceGE, h5, h1, h8, h9, h10, hq]
        exact ⟨l.length - (i + 1), M2, by omega, hle2, i + 1, by omega, rfl, rfl, by rw [hft]; exact hO2⟩
      · rw [if_neg (by simpa using hk)] at hft
        simp -implicitDefEqProofs (maxSteps := 1000000) (disch := omega) only [↓xsP, ↓vc_seq, xsQ, xsT, xsR, xsD, ↓reduceIte, reduceCtorEq, eq_self, ne_eq, imp_self, forall_const, Nat.reduceEqDiff, Nat.reduceAdd, Nat.reduceSub, Nat.reduceMul, Nat.reduceLT, Nat.reduceLeDiff, Nat.reduceBEq, Nat.reduceDiv, Nat.reduceMod, Int.reduceToNat, Int.reduceNeg, Int.reduceAdd, Int.reduceSub, Int.reduceMul, Int.reduceEq, Int.reduceNe, Int.reduceLT, Int.reduceLE, Int.reduceGT, Int.reduceGE, h5, h1, h8, h9, h10, hq]
        exact ⟨l.length - (i + 1), M', by omega, le_new (Mem.le_refl _) hp7, i + 1, by omega, rfl, rfl, by rw [hft]; exact hO⟩
    · have hi' : i = l.length := by omega
      subst hi'
      rw [List.take_length] at hO
      simp -implicitDefEqProofs (maxSteps := 1000000) (disch := omega) only [↓xsP, ↓vc_seq, xsQ, xsT, xsR, xsD, ↓reduceIte, reduceCtorEq, eq_self, ne_eq, imp_self, forall_const, Nat.reduceEqDiff, Nat.reduceAdd, Nat.reduceSub, Nat.reduceMul, Nat.reduceLT, Nat.reduceLeDiff, Nat.reduceBEq, Nat.reduceDiv, Nat.reduceMod, Int.reduceToNat, Int.reduceNeg, Int.reduceAdd, Int.reduceSub, Int.reduceMul, Int.reduceEq, Int.reduceNe, Int.reduceLT, Int.reduceLE, Int.reduceGT, Int.reduceGE, h5, h1, h8, h9, h10]
      exact fin_out hO (Mem.le_refl _) (Mem.le_refl _) ⟨rfl, rfl⟩

theorem rng_filter (l : List Pr) (lo hi : Int) : rng l lo hi = l.filter fun p => decide (lo ≤ p.key ∧ p.key ≤ hi) := by
  rw [rng, stays]
  refine List.filter_congr fun p _ => ?_
  by_cases h1 : p.key < lo
  · have h2 : ¬ (lo ≤ p.key ∧ p.key ≤ hi) := by omega
    simp [outside, h1, h2]
  · by_cases h3 : p.key > hi
    · have h2 : ¬ (lo ≤ p.key ∧ p.key ≤ hi) := by omega
      simp [outside, h1, h3, h2]
    · have h2 : lo ≤ p.key ∧ p.key ≤ hi := by omega
      simp [outside, h1, h3, h2]
theorem between_spec (l : List Pr) (hl : l.length ≤ 1000001) (lo hi : Int) (M : Mem) :
    XCalls Go.Proofs.Try.prog 48 [.l (.sl (l.map Pr.row)), .l (.int .i64 lo), .l (.int .i64 hi)] M fun r M' => r = .l (.sl ((rng l lo hi).map Pr.row)) ∧ M' = M := by
  rw [rng_filter]
  refine xcalls_intro (rs := [.tmp 6]) Go.Proofs.Try.func48 rfl (by kernel_rfl) rfl rfl (by kernel_rfl) (by simp) ?_
  simp -implicitDefEqProofs (maxSteps := 1000000) (disch := omega) only [↓xsP, ↓vc_seq, xsQ, xsT, xsR, xsD, ↓reduceIte, reduceCtorEq, eq_self, ne_eq, imp_self, forall_const, Nat.reduceEqDiff, Nat.reduceAdd, Nat.reduceSub, Nat.reduceMul, Nat.reduceLT, Nat.reduceLeDiff, Nat.reduceBEq, Nat.reduceDiv, Nat.reduceMod, Int.reduceToNat, Int.reduceNeg, Int.reduceAdd, Int.reduceSub, Int.reduceMul, Int.reduceEq, Int.reduceNe, Int.reduceLT, Int.reduceLE, Int.reduceGT, Int.reduceGE]
  refine loopI_of (xloop (by kernel_rfl) (fun k fr M' => ∃ i : Nat, i ≤ l.length ∧ k = l.length - i ∧ fr 1 = .l (.int .i64 lo) ∧ fr 2 = .l (.int .i64 hi) ∧ fr 10 = .l (.sl (l.map Pr.row)) ∧ fr 11 = .l (.int .i64 l.length) ∧ fr 12 = .l (.int .i64 i) ∧ OutP M (fr 7) M' ((l.take i).filter fun p => decide (lo ≤ p.key ∧ p.key ≤ hi))) l.length ?_ ?_)
  · refine ⟨0, Nat.zero_le _, rfl, by simp -implicitDefEqProofs (maxSteps := 1000000) (disch := omega) only [↓xsP, ↓vc_seq, xsQ, xsT, xsR, xsD, ↓reduceIte, reduceCtorEq, eq_self, ne_eq, imp_self, forall_const, Nat.reduceEqDiff, Nat.reduceAdd, Nat.reduceSub, Nat.reduceMul, Nat.reduceLT, Nat.reduceLeDiff, Nat.reduceBEq, Nat.reduceDiv, Nat.reduceMod, Int.reduceToNat, Int.reduceNeg, Int.reduceAdd, Int.reduceSub, Int.reduceMul, Int.reduceEq, Int.reduceNe, Int.reduceLT, Int.reduceLE, Int.reduceGT, Int.reduceGE], by simp -implicitDefEqProofs (maxSteps := 1000000) (disch := omega) only [↓xsP, ↓vc_seq, xsQ, xsT, xsR, xsD, ↓reduceIte, reduceCtorEq, eq_self, ne_eq, imp_self, forall_const, Nat.reduceEqDiff, Nat.reduceAdd, Nat.reduceSub, Nat.reduceMul, Nat.reduceLT, Nat.reduceLeDiff, Nat.reduceBEq, Nat.reduceDiv, Nat.reduceMod, Int.reduceToNat, Int.reduceNeg, Int.reduceAdd, Int.reduceSub, Int.reduceMul, Int.reduceEq, Int.reduceNe, Int.reduceLT, Int.reduceLE, Int.reduceGT, Int.reduceGE], by simp -implicitDefEqProofs (maxSteps := 1000000) (disch := omega) only [↓xsP, ↓vc_seq, xsQ, xsT, xsR, xsD, ↓reduceIte, reduceCtorEq, eq_self, ne_eq, imp_self, forall_const, Nat.reduceEqDiff, Nat.reduceAdd, Nat.reduceSub, Nat.reduceMul, Nat.reduceLT, Nat.reduceLeDiff, Nat.reduceBEq, Nat.reduceDiv, Nat.reduceMod, Int.reduceToNat, Int.reduceNeg, Int.reduceAdd, Int.reduceSub, Int.reduceMul, Int.reduceEq, Int.reduceNe, Int.reduceLT, Int.reduceLE, Int.reduceGT, Int.reduceGE], by simp -implicitDefEqProofs (maxSteps := 1000000) (disch := omega) only [↓xsP, ↓vc_seq, xsQ, xsT, xsR, xsD, ↓reduceIte, reduceCtorEq, eq_self, ne_eq, imp_self, forall_const, Nat.reduceEqDiff, Nat.reduceAdd, Nat.reduceSub, Nat.reduceMul, Nat.reduceLT, Nat.reduceLeDiff, Nat.reduceBEq, Nat.reduceDiv, Nat.reduceMod, Int.reduceToNat, Int.reduceNeg, Int.reduceAdd, Int.reduceSub, Int.reduceMul, Int.reduceEq, Int.reduceNe, Int.reduceLT, Int.reduceLE, Int.reduceGT, Int.reduceGE], by simp -implicitDefEqProofs (maxSteps := 1000000) (disch := omega) only [↓xsP, ↓vc_seq, xsQ, xsT, xsR, xsD, ↓reduceIte, reduceCtorEq, eq_self, ne_eq, imp_self, forall_const, Nat.reduceEqDiff, Nat.reduceAdd, Nat.reduceSub, Nat.reduceMul, Nat.reduceLT, Nat.reduceLeDiff, Nat.reduceBEq, Nat.reduceDiv, Nat.reduceMod, Int.reduceToNat, Int.reduceNeg, Int.reduceAdd, Int.reduceSub, Int.reduceMul, Int.reduceEq, Int.reduceNe, Int.reduceLT, Int.reduceLE, Int.reduceGT, Int.reduceGE, Int.cast_ofNat_Int], ?_⟩
    simp -implicitDefEqProofs (maxSteps := 1000000) (disch := omega) only [↓xsP, ↓vc_seq, xsQ, xsT, xsR, xsD, ↓reduceIte, reduceCtorEq, eq_self, ne_eq, imp_self, forall_const, Nat.reduceEqDiff, Nat.reduceAdd, Nat.reduceSub, Nat.reduceMul, Nat.reduceLT, Nat.reduceLeDiff, Nat.reduceBEq, Nat.reduceDiv, Nat.reduceMod, Int.reduceToNat, Int.reduceNeg, Int.reduceAdd, Int.reduceSub, Int.reduceMul, Int.reduceEq, Int.reduceNe, Int.reduceLT, Int.reduceLE, Int.reduceGT, Int.reduceGE]
    exact OutP.nil M
  · rintro k fr M' ⟨i, hi2, rfl, h1, h2, h8, h9, h10, hO⟩
    obtain ⟨s7, h7⟩ := hO.val
    rw [h7] at hO
    simp -implicitDefEqProofs (maxSteps := 1000000) (disch := omega) only [↓xsP, ↓vc_seq, xsQ, xsT, xsR, xsD, ↓reduceIte, reduceCtorEq, eq_self, ne_eq, imp_self, forall_const, Nat.reduceEqDiff, Nat.reduceAdd, Nat.reduceSub, Nat.reduceMul, Nat.reduceLT, Nat.reduceLeDiff, Nat.reduceBEq, Nat.reduceDiv, Nat.reduceMod, Int.reduceToNat, Int.reduceNeg, Int.reduceAdd, Int.reduceSub, Int.reduceMul, Int.reduceEq, Int.reduceNe, Int.reduceLT, Int.reduceLE, Int.reduceGT, Int.reduceGE, h7, h1, h2, h8, h9, h10]
    refine condI_prop (fun hlt => ?_) (fun hlt => ?_)
    · have hi' : i < l.length := by omega
      have hft := filter_take (q := fun p => decide (lo ≤ p.key ∧ p.key ≤ hi)) hi'
      have hfl := filter_take_len (fun p => decide (lo ≤ p.key ∧ p.key ≤ hi)) l i
      obtain ⟨q, hq⟩ : ∃ q, l.getD i default = q := ⟨_, rfl⟩
      rw [hq] at hft
      simp -implicitDefEqProofs (maxSteps := 1000000) (disch := omega) only [↓xsP, ↓vc_seq, xsQ, xsT, xsR, xsD, ↓reduceIte, reduceCtorEq, eq_self, ne_eq, imp_self, forall_const, Nat.reduceEqDiff, Nat.reduceAdd, Nat.reduceSub, Nat.reduceMul, Nat.reduceLT, Nat.reduceLeDiff, Nat.reduceBEq, Nat.reduceDiv, Nat.reduceMod, Int.reduceToNat, Int.reduceNeg, Int.reduceAdd, Int.reduceSub, Int.reduceMul, Int.reduceEq, Int.reduceNe, Int.reduceLT, Int.reduceLE, Int.reduceGT, Int.reduceGE, h7, h1, h2, h8, h9, h10, hq]
      refine newI_intro fun p9 hp9 => ?_
      simp -implicitDefEqProofs (maxSteps := 1000000) (disch := omega) only [↓xsP, ↓vc_seq, xsQ, xsT, xsR, xsD, ↓reduceIte, reduceCtorEq, eq_self, ne_eq, imp_self, forall_const, Nat.reduceEqDiff, Nat.reduceAdd, Nat.reduceSub, Nat.reduceMul, Nat.reduceLT, Nat.reduceLeDiff, Nat.reduceBEq, Nat.reduceDiv, Nat.reduceMod, Int.reduceToNat, Int.reduceNeg, Int.reduceAdd, Int.reduceSub, Int.reduceMul, Int.reduceEq, Int.reduceNe, Int.reduceLT, Int.reduceLE, Int.reduceGT, Int.reduceGE, h7, h1, h2, h8, h9, h10, hq]
      have hno : ¬ (lo ≤ q.key ∧ q.key ≤ hi) → OutP M (.l s7) M' ((l.take (i + 1)).filter fun p => decide (lo ≤ p.key ∧ p.key ≤ hi)) := fun hn => by
        rw [hft, if_neg (by simpa using hn)]
        exact hO
      refine gI_prop (fun hk => ?_) (fun hk => ?_)
      · simp -implicitDefEqProofs (maxSteps := 1000000) (disch := omega) only [↓xsP, ↓vc_seq, xsQ, xsT, xsR, xsD, ↓reduceIte, reduceCtorEq, eq_self, ne_eq, imp_self, forall_const, Nat.reduceEqDiff, Nat.reduceAdd, Nat.reduceSub, Nat.reduceMul, Nat.reduceLT, Nat.reduceLeDiff, Nat.reduceBEq, Nat.reduceDiv, Nat.reduceMod, Int.reduceToNat, Int.reduceNeg, Int.reduceAdd, Int.reduceSub, Int.reduceMul, Int.reduceEq, Int.reduceNe, Int.reduceLT, Int.reduceLE, Int.reduceGT, Int.reduceGE, h7, h1, h2, h8, h9, h10, hq, hk]
        refine condI_prop (fun hk2 => ?_) (fun hk2 => ?_)
        · rw [if_pos (by simp; omega)] at hft
          simp -implicitDefEqProofs (maxSteps := 1000000) (disch := omega) only [↓xsP, ↓vc_seq, xsQ, xsT, xsR, xsD, ↓reduceIte, reduceCtorEq, eq_self, ne_eq, imp_self, forall_const, Nat.reduceEqDiff, Nat.reduceAdd, Nat.reduceSub, Nat.reduceMul, Nat.reduceLT, Nat.reduceLeDiff, Nat.reduceBEq, Nat.reduceDiv, Nat.reduceMod, Int.reduceToNat, Int.reduceNeg, Int.reduceAdd, Int.reduceSub, Int.reduceMul, Int.reduceEq, Int.reduceNe, Int.reduceLT, Int.reduceLE, Int.reduceGT, Int.reduceGE, h7, h1, h2, h8, h9, h10, hq]
          refine newI_intro fun pb hpb => ?_
          simp -implicitDefEqProofs (maxSteps := 1000000) (disch := omega) only [↓xsP, ↓vc_seq, xsQ, xsT, xsR, xsD, ↓reduceIte, reduceCtorEq, eq_self, ne_eq, imp_self, forall_const, Nat.reduceEqDiff, Nat.reduceAdd, Nat.reduceSub, Nat.reduceMul, Nat.reduceLT, Nat.reduceLeDiff, Nat.reduceBEq, Nat.reduceDiv, Nat.reduceMod, Int.reduceToNat, Int.reduceNeg, Int.reduceAdd, Int.reduceSub, Int.reduceMul, Int.reduceEq, Int.reduceNe, Int.reduceLT, Int.reduceLE, Int.reduceGT, Int.reduceGE, h7, h1, h2, h8, h9, h10, hq]
          refine app_out (p := q) hO (le_new (Mem.le_refl _) hp9) hpb (by omega) fun v' N' M2 hO2 hle2 _ => ?_
          obtain ⟨s5', rfl⟩ := hO2.val
          simp -implicitDefEqProofs (maxSteps := 1000000) (disch := omega) only [↓xsP, ↓vc_seq, xsQ, xsT, xsR, xsD, ↓reduceIte, reduceCtorEq, eq_self, ne_eq, imp_self, forall_const, Nat.reduceEqDiff, Nat.reduceAdd, Nat.reduceSub, Nat.reduceMul, Nat.reduceLT, Nat.reduceLeDiff, Nat.reduceBEq, Nat.reduceDiv, Nat.reduceMod, Int.reduceToNat, Int.reduceNeg, Int.reduceAdd, Int.reduceSub, Int.reduceMul, Int.reduceEq, Int.reduceNe, Int.reduceLT, Int.reduceLE, Int.reduceGT, Int.reduceGE, h7, h1, h2, h8, h9, h10, hq]
          exact ⟨l.length - (i + 1), M2, by omega, hle2, i + 1, by omega, rfl, rfl, by rw [hft]; exact hO2⟩
        · simp -implicitDefEqProofs (maxSteps := 1000000) (disch := omega) only [↓xsP, ↓vc_seq, xsQ, xsT, xsR, xsD, ↓reduceIte, reduceCtorEq, eq_self, ne_eq, imp_self, forall_const, Nat.reduceEqDiff, Nat.reduceAdd, Nat.reduceSub, Nat.reduceMul, Nat.reduceLT, Nat.reduceLeDiff, Nat.reduceBEq, Nat.reduceDiv, Nat.reduceMod, Int.reduceToNat, Int.reduceNeg, Int.reduceAdd, Int.reduceSub, Int.reduceMul, Int.reduceEq, Int.reduceNe, Int.reduceLT, Int.reduceLE, Int.reduceGT, Int.reduceGE, h7, h1, h2, h8, h9, h10, hq]
          exact ⟨l.length - (i + 1), M', by omega, le_new (Mem.le_refl _) hp9, i + 1, by omega, rfl, rfl, hno (by omega)⟩
      · simp -implicitDefEqProofs (maxSteps := 1000000) (disch := omega) only [↓xsP, ↓vc_seq, xsQ, xsT, xsR, xsD, ↓reduceIte, reduceCtorEq, eq_self, ne_eq, imp_self, forall_const, Nat.reduceEqDiff, Nat.reduceAdd, Nat.reduceSub, Nat.reduceMul, Nat.reduceLT, Nat.reduceLeDiff, Nat.reduceBEq, Nat.reduceDiv, Nat.reduceMod, Int.reduceToNat, Int.reduceNeg, Int.reduceAdd, Int.reduceSub, Int.reduceMul, Int.reduceEq, Int.reduceNe, Int.reduceLT, Int.reduceLE, Int.reduceGT, Int.reduceGE, h7, h1, h2, h8, h9, h10, hq, hk]
        exact ⟨l.length - (i + 1), M', by omega, le_new (Mem.le_refl _) hp9, i + 1, by omega, rfl, rfl, hno (by omega)⟩
    · have hi' : i = l.length := by omega
      subst hi'
      rw [List.take_length] at hO
      simp -implicitDefEqProofs (maxSteps := 1000000) (disch := omega) only [↓xsP, ↓vc_seq, xsQ, xsT, xsR, xsD, ↓reduceIte, reduceCtorEq, eq_self, ne_eq, imp_self, forall_const, Nat.reduceEqDiff, Nat.reduceAdd, Nat.reduceSub, Nat.reduceMul, Nat.reduceLT, Nat.reduceLeDiff, Nat.reduceBEq, Nat.reduceDiv, Nat.reduceMod, Int.reduceToNat, Int.reduceNeg, Int.reduceAdd, Int.reduceSub, Int.reduceMul, Int.reduceEq, Int.reduceNe, Int.reduceLT, Int.reduceLE, Int.reduceGT, Int.reduceGE, h7, h1, h2, h8, h9, h10]
      exact fin_out hO (Mem.le_refl _) (Mem.le_refl _) ⟨rfl, rfl⟩

theorem findR_spec (l : List Pr) (hl : l.length ≤ 140737488355328) (key : Int) (M : Mem) :
    XCalls Go.Proofs.Try.prog 46 [.l (.sl (l.map Pr.row)), .l (.int .i64 key)] M fun r M' => r = .l (.int .i64 (place l key)) ∧ M' = M := by
  refine xcalls_intro (rs := [.tmp 4]) Go.Proofs.Try.func46 rfl (by kernel_rfl) rfl rfl (by kernel_rfl) (by simp) ?_
  have hstep : ∀ i, i < l.length → l.drop i = l.getD i default :: l.drop (i + 1) := fun i hi => drop_cons hi
  simp -implicitDefEqProofs (maxSteps := 1000000) (disch := omega) only [↓xsP, ↓vc_seq, xsQ, xsT, xsR, xsD, ↓reduceIte, reduceCtorEq, eq_self, ne_eq, imp_self, forall_const, Nat.reduceEqDiff, Nat.reduceAdd, Nat.reduceSub, Nat.reduceMul, Nat.reduceLT, Nat.reduceLeDiff, Nat.reduceBEq, Nat.reduceDiv, Nat.reduceMod, Int.reduceToNat, Int.reduceNeg, Int.reduceAdd, Int.reduceSub, Int.reduceMul, Int.reduceEq, Int.reduceNe, Int.reduceLT, Int.reduceLE, Int.reduceGT, Int.reduceGE]
  refine loopI_of (xloop (by kernel_rfl) (fun k fr M' => ∃ i : Nat, i ≤ l.length ∧ k = l.length - i ∧ fr 1 = .l (.int .i64 key) ∧ fr 7 = .l (.sl (l.map Pr.row)) ∧ fr 8 = .l (.int .i64 l.length) ∧ fr 9 = .l (.int .i64 i) ∧ M' = M ∧ place l key = pidx (fun p => decide (p.key = key)) (l.drop i) i) l.length ?_ ?_)
  · exact ⟨0, Nat.zero_le _, rfl, by simp -implicitDefEqProofs (maxSteps := 1000000) (disch := omega) only [↓xsP, ↓vc_seq, xsQ, xsT, xsR, xsD, ↓reduceIte, reduceCtorEq, eq_self, ne_eq, imp_self, forall_const, Nat.reduceEqDiff, Nat.reduceAdd, Nat.reduceSub, Nat.reduceMul, Nat.reduceLT, Nat.reduceLeDiff, Nat.reduceBEq, Nat.reduceDiv, Nat.reduceMod, Int.reduceToNat, Int.reduceNeg, Int.reduceAdd, Int.reduceSub, Int.reduceMul, Int.reduceEq, Int.reduceNe, Int.reduceLT, Int.reduceLE, Int.reduceGT, Int.reduceGE], by simp -implicitDefEqProofs (maxSteps := 1000000) (disch := omega) only [↓xsP, ↓vc_seq, xsQ, xsT, xsR, xsD, ↓reduceIte, reduceCtorEq, eq_self, ne_eq, imp_self, forall_const, Nat.reduceEqDiff, Nat.reduceAdd, Nat.reduceSub, Nat.reduceMul, Nat.reduceLT, Nat.reduceLeDiff, Nat.reduceBEq, Nat.reduceDiv, Nat.reduceMod, Int.reduceToNat, Int.reduceNeg, Int.reduceAdd, Int.reduceSub, Int.reduceMul, Int.reduceEq, Int.reduceNe, Int.reduceLT, Int.reduceLE, Int.reduceGT, Int.reduceGE], by simp -implicitDefEqProofs (maxSteps := 1000000) (disch := omega) only [↓xsP, ↓vc_seq, xsQ, xsT, xsR, xsD, ↓reduceIte, reduceCtorEq, eq_self, ne_eq, imp_self, forall_const, Nat.reduceEqDiff, Nat.reduceAdd, Nat.reduceSub, Nat.reduceMul, Nat.reduceLT, Nat.reduceLeDiff, Nat.reduceBEq, Nat.reduceDiv, Nat.reduceMod, Int.reduceToNat, Int.reduceNeg, Int.reduceAdd, Int.reduceSub, Int.reduceMul, Int.reduceEq, Int.reduceNe, Int.reduceLT, Int.reduceLE, Int.reduceGT, Int.reduceGE], by simp -implicitDefEqProofs (maxSteps := 1000000) (disch := omega) only [↓xsP, ↓vc_seq, xsQ, xsT, xsR, xsD, ↓reduceIte, reduceCtorEq, eq_self, ne_eq, imp_self, forall_const, Nat.reduceEqDiff, Nat.reduceAdd, Nat.reduceSub, Nat.reduceMul, Nat.reduceLT, Nat.reduceLeDiff, Nat.reduceBEq, Nat.reduceDiv, Nat.reduceMod, Int.reduceToNat, Int.reduceNeg, Int.reduceAdd, Int.reduceSub, Int.reduceMul, Int.reduceEq, Int.reduceNe, Int.reduceLT, Int.reduceLE, Int.reduceGT, Int.reduceGE, Int.cast_ofNat_Int], rfl, rfl⟩
  · rintro k fr M' ⟨i, hi, rfl, h1, h7, h8, h9, rfl, hinv⟩
    simp -implicitDefEqProofs (maxSteps := 1000000) (disch := omega) only [↓xsP, ↓vc_seq, xsQ, xsT, xsR, xsD, ↓reduceIte, reduceCtorEq, eq_self, ne_eq, imp_self, forall_const, Nat.reduceEqDiff, Nat.reduceAdd, Nat.reduceSub, Nat.reduceMul, Nat.reduceLT, Nat.reduceLeDiff, Nat.reduceBEq, Nat.reduceDiv, Nat.reduceMod, Int.reduceToNat, Int.reduceNeg, Int.reduceAdd, Int.reduceSub, Int.reduceMul, Int.reduceEq, Int.reduceNe, Int.reduceLT, Int.reduceLE, Int.reduceGT, Int.reduceGE, h1, h7, h8, h9]
    refine condI_prop (fun hlt => ?_) (fun hlt => ?_)
    · rw [hstep i (by omega), pidx] at hinv
      obtain ⟨q, hq⟩ : ∃ q, l.getD i default = q := ⟨_, rfl⟩
      rw [hq] at hinv
      simp -implicitDefEqProofs (maxSteps := 1000000) (disch := omega) only [↓xsP, ↓vc_seq, xsQ, xsT, xsR, xsD, ↓reduceIte, reduceCtorEq, eq_self, ne_eq, imp_self, forall_const, Nat.reduceEqDiff, Nat.reduceAdd, Nat.reduceSub, Nat.reduceMul, Nat.reduceLT, Nat.reduceLeDiff, Nat.reduceBEq, Nat.reduceDiv, Nat.reduceMod, Int.reduceToNat, Int.reduceNeg, Int.reduceAdd, Int.reduceSub, Int.reduceMul, Int.reduceEq, Int.reduceNe, Int.reduceLT, Int.reduceLE, Int.reduceGT, Int.reduceGE, h1, h7, h8, h9, hq]
      refine newI_intro fun p6 hp6 => ?_
      simp -implicitDefEqProofs (maxSteps := 1000000) (disch := omega) only [↓xsP, ↓vc_seq, xsQ, xsT, xsR, xsD, ↓reduceIte, reduceCtorEq, eq_self, ne_eq, imp_self, forall_const, Nat.reduceEqDiff, Nat.reduceAdd, Nat.reduceSub, Nat.reduceMul, Nat.reduceLT, Nat.reduceLeDiff, Nat.reduceBEq, Nat.reduceDiv, Nat.reduceMod, Int.reduceToNat, Int.reduceNeg, Int.reduceAdd, Int.reduceSub, Int.reduceMul, Int.reduceEq, Int.reduceNe, Int.reduceLT, Int.reduceLE, Int.reduceGT, Int.reduceGE, h1, h7, h8, h9, hq]
      refine condI_prop (fun hk => ?_) (fun hk => ?_)
      · rw [if_pos (by simpa using hk)] at hinv
        simp -implicitDefEqProofs (maxSteps := 1000000) (disch := omega) only [↓xsP, ↓vc_seq, xsQ, xsT, xsR, xsD, ↓reduceIte, reduceCtorEq, eq_self, ne_eq, imp_self, forall_const, Nat.reduceEqDiff, Nat.reduceAdd, Nat.reduceSub, Nat.reduceMul, Nat.reduceLT, Nat.reduceLeDiff, Nat.reduceBEq, Nat.reduceDiv, Nat.reduceMod, Int.reduceToNat, Int.reduceNeg, Int.reduceAdd, Int.reduceSub, Int.reduceMul, Int.reduceEq, Int.reduceNe, Int.reduceLT, Int.reduceLE, Int.reduceGT, Int.reduceGE, h1, h7, h8, h9, hq]
        exact fin_ok (le_new (Mem.le_refl _) hp6) ⟨by rw [hinv], rfl⟩
      · rw [if_neg (by simpa using hk)] at hinv
        simp -implicitDefEqProofs (maxSteps := 1000000) (disch := omega) only [↓xsP, ↓vc_seq, xsQ, xsT, xsR, xsD, ↓reduceIte, reduceCtorEq, eq_self, ne_eq, imp_self, forall_const, Nat.reduceEqDiff, Nat.reduceAdd, Nat.reduceSub, Nat.reduceMul, Nat.reduceLT, Nat.reduceLeDiff, Nat.reduceBEq, Nat.reduceDiv, Nat.reduceMod, Int.reduceToNat, Int.reduceNeg, Int.reduceAdd, Int.reduceSub, Int.reduceMul, Int.reduceEq, Int.reduceNe, Int.reduceLT, Int.reduceLE, Int.reduceGT, Int.reduceGE, h1, h7, h8, h9, hq]
        exact ⟨l.length - (i + 1), M', by omega, le_new (Mem.le_refl _) hp6, i + 1, by omega, rfl, rfl, rfl, hinv⟩
    · have hil : i = l.length := by omega
      subst hil
      rw [List.drop_length, pidx] at hinv
      simp -implicitDefEqProofs (maxSteps := 1000000) (disch := omega) only [↓xsP, ↓vc_seq, xsQ, xsT, xsR, xsD, ↓reduceIte, reduceCtorEq, eq_self, ne_eq, imp_self, forall_const, Nat.reduceEqDiff, Nat.reduceAdd, Nat.reduceSub, Nat.reduceMul, Nat.reduceLT, Nat.reduceLeDiff, Nat.reduceBEq, Nat.reduceDiv, Nat.reduceMod, Int.reduceToNat, Int.reduceNeg, Int.reduceAdd, Int.reduceSub, Int.reduceMul, Int.reduceEq, Int.reduceNe, Int.reduceLT, Int.reduceLE, Int.reduceGT, Int.reduceGE, h1, h7, h8, h9]
      exact fin_ok (Mem.le_refl _) ⟨by rw [hinv], rfl⟩

/-- With, step by step. -/
def wst (p : Pr) (s : List Pr × Bool) (x : Pr) : List Pr × Bool :=
  let s1 := if s.2 = false ∧ x.key ≥ p.key then (s.1 ++ [p], true) else s
  (if x.key ≠ p.key then s1.1 ++ [x] else s1.1, s1.2)
def wrun (p : Pr) (l : List Pr) : List Pr × Bool := l.foldl (wst p) ([], false)
def withR (l : List Pr) (p : Pr) : List Pr := if (wrun p l).2 then (wrun p l).1 else (wrun p l).1 ++ [p]
theorem wrun_take {p : Pr} {l : List Pr} {i : Nat} (hi : i < l.length) : wrun p (l.take (i + 1)) = wst p (wrun p (l.take i)) (l.getD i default) := by
  rw [take_snoc l hi, wrun, List.foldl_append]
  rfl
theorem wst_len (p : Pr) (s : List Pr × Bool) (x : Pr) : (wst p s x).1.length + (!(wst p s x).2).toNat ≤ s.1.length + (!s.2).toNat + 1 := by
  obtain ⟨o, d⟩ := s
  cases d <;> simp only [wst] <;> (repeat' split) <;> simp_all
theorem wrun_len (p : Pr) (l : List Pr) : (wrun p l).1.length + (!(wrun p l).2).toNat ≤ l.length + 1 := by
  have key : ∀ (l : List Pr) (s : List Pr × Bool), (l.foldl (wst p) s).1.length + (!(l.foldl (wst p) s).2).toNat ≤ s.1.length + (!s.2).toNat + l.length := by
    intro l
    induction l with
    | nil => intro s; simp
    | cons x r ih =>
      intro s
      have h1 := ih (wst p s x)
      have h2 := wst_len p s x
      simp only [List.foldl_cons, List.length_cons]
      omega
  have := key l ([], false)
  simp only [List.length_nil, Bool.not_false, Bool.toNat_true] at this
  rw [wrun]
  omega
theorem withR_spec (l : List Pr) (hl : l.length ≤ 1000000) (p : Pr) (M : Mem) :
    XCalls Go.Proofs.Try.prog 20 [.l (.sl (l.map Pr.row)), .agg p.row] M fun r M' => r = .l (.sl ((withR l p).map Pr.row)) ∧ M' = M := by
  refine xcalls_intro (rs := [.tmp 4]) Go.Proofs.Try.func20 rfl (by kernel_rfl) rfl rfl (by kernel_rfl) (by simp) ?_
  simp -implicitDefEqProofs (maxSteps := 1000000) (disch := omega) only [↓xsP, ↓vc_seq, xsQ, xsT, xsR, xsD, ↓reduceIte, reduceCtorEq, eq_self, ne_eq, imp_self, forall_const, Nat.reduceEqDiff, Nat.reduceAdd, Nat.reduceSub, Nat.reduceMul, Nat.reduceLT, Nat.reduceLeDiff, Nat.reduceBEq, Nat.reduceDiv, Nat.reduceMod, Int.reduceToNat, Int.reduceNeg, Int.reduceAdd, Int.reduceSub, Int.reduceMul, Int.reduceEq, Int.reduceNe, Int.reduceLT, Int.reduceLE, Int.reduceGT, Int.reduceGE]
  refine newI_intro fun p3 hp3 => ?_
  have hM3 := Mem.set_eq M p3 (.cells 26 [p.row] 0)
  have hMN := le_new (b := .cells 26 [p.row] 0) (Mem.le_refl M) hp3
  simp only [Pr.row] at hM3 hMN
  simp -implicitDefEqProofs (maxSteps := 1000000) (disch := omega) only [↓xsP, ↓vc_seq, xsQ, xsT, xsR, xsD, ↓reduceIte, reduceCtorEq, eq_self, ne_eq, imp_self, forall_const, Nat.reduceEqDiff, Nat.reduceAdd, Nat.reduceSub, Nat.reduceMul, Nat.reduceLT, Nat.reduceLeDiff, Nat.reduceBEq, Nat.reduceDiv, Nat.reduceMod, Int.reduceToNat, Int.reduceNeg, Int.reduceAdd, Int.reduceSub, Int.reduceMul, Int.reduceEq, Int.reduceNe, Int.reduceLT, Int.reduceLE, Int.reduceGT, Int.reduceGE]
  generalize M.set p3 _ = N at hM3 hMN ⊢
  refine loopI_of (xloop (by kernel_rfl) (fun k fr M' => ∃ i : Nat, i ≤ l.length ∧ k = l.length - i ∧ fr 3 = .l (.ptr p3 0 0) ∧ fr 6 = .l (.bool (wrun p (l.take i)).2) ∧ fr 9 = .l (.sl (l.map Pr.row)) ∧ fr 10 = .l (.int .i64 l.length) ∧ fr 11 = .l (.int .i64 i) ∧ OutP N (fr 5) M' (wrun p (l.take i)).1) l.length ?_ ?_)
  · refine ⟨0, Nat.zero_le _, rfl, by simp -implicitDefEqProofs (maxSteps := 1000000) (disch := omega) only [↓xsP, ↓vc_seq, xsQ, xsT, xsR, xsD, ↓reduceIte, reduceCtorEq, eq_self, ne_eq, imp_self, forall_const, Nat.reduceEqDiff, Nat.reduceAdd, Nat.reduceSub, Nat.reduceMul, Nat.reduceLT, Nat.reduceLeDiff, Nat.reduceBEq, Nat.reduceDiv, Nat.reduceMod, Int.reduceToNat, Int.reduceNeg, Int.reduceAdd, Int.reduceSub, Int.reduceMul, Int.reduceEq, Int.reduceNe, Int.reduceLT, Int.reduceLE, Int.reduceGT, Int.reduceGE], by simp -implicitDefEqProofs (maxSteps := 1000000) (disch := omega) only [↓xsP, ↓vc_seq, xsQ, xsT, xsR, xsD, ↓reduceIte, reduceCtorEq, eq_self, ne_eq, imp_self, forall_const, Nat.reduceEqDiff, Nat.reduceAdd, Nat.reduceSub, Nat.reduceMul, Nat.reduceLT, Nat.reduceLeDiff, Nat.reduceBEq, Nat.reduceDiv, Nat.reduceMod, Int.reduceToNat, Int.reduceNeg, Int.reduceAdd, Int.reduceSub, Int.reduceMul, Int.reduceEq, Int.reduceNe, Int.reduceLT, Int.reduceLE, Int.reduceGT, Int.reduceGE]; rfl, by simp -implicitDefEqProofs (maxSteps := 1000000) (disch := omega) only [↓xsP, ↓vc_seq, xsQ, xsT, xsR, xsD, ↓reduceIte, reduceCtorEq, eq_self, ne_eq, imp_self, forall_const, Nat.reduceEqDiff, Nat.reduceAdd, Nat.reduceSub, Nat.reduceMul, Nat.reduceLT, Nat.reduceLeDiff, Nat.reduceBEq, Nat.reduceDiv, Nat.reduceMod, Int.reduceToNat, Int.reduceNeg, Int.reduceAdd, Int.reduceSub, Int.reduceMul, Int.reduceEq, Int.reduceNe, Int.reduceLT, Int.reduceLE, Int.reduceGT, Int.reduceGE], by simp -implicitDefEqProofs (maxSteps := 1000000) (disch := omega) only [↓xsP, ↓vc_seq, xsQ, xsT, xsR, xsD, ↓reduceIte, reduceCtorEq, eq_self, ne_eq, imp_self, forall_const, Nat.reduceEqDiff, Nat.reduceAdd, Nat.reduceSub, Nat.reduceMul, Nat.reduceLT, Nat.reduceLeDiff, Nat.reduceBEq, Nat.reduceDiv, Nat.reduceMod, Int.reduceToNat, Int.reduceNeg, Int.reduceAdd, Int.reduceSub, Int.reduceMul, Int.reduceEq, Int.reduceNe, Int.reduceLT, Int.reduceLE, Int.reduceGT, Int.reduceGE], by simp -implicitDefEqProofs (maxSteps := 1000000) (disch := omega) only [↓xsP, ↓vc_seq, xsQ, xsT, xsR, xsD, ↓reduceIte, reduceCtorEq, eq_self, ne_eq, imp_self, forall_const, Nat.reduceEqDiff, Nat.reduceAdd, Nat.reduceSub, Nat.reduceMul, Nat.reduceLT, Nat.reduceLeDiff, Nat.reduceBEq, Nat.reduceDiv, Nat.reduceMod, Int.reduceToNat, Int.reduceNeg, Int.reduceAdd, Int.reduceSub, Int.reduceMul, Int.reduceEq, Int.reduceNe, Int.reduceLT, Int.reduceLE, Int.reduceGT, Int.reduceGE, Int.cast_ofNat_Int], ?_⟩
    simp -implicitDefEqProofs (maxSteps := 1000000) (disch := omega) only [↓xsP, ↓vc_seq, xsQ, xsT, xsR, xsD, ↓reduceIte, reduceCtorEq, eq_self, ne_eq, imp_self, forall_const, Nat.reduceEqDiff, Nat.reduceAdd, Nat.reduceSub, Nat.reduceMul, Nat.reduceLT, Nat.reduceLeDiff, Nat.reduceBEq, Nat.reduceDiv, Nat.reduceMod, Int.reduceToNat, Int.reduceNeg, Int.reduceAdd, Int.reduceSub, Int.reduceMul, Int.reduceEq, Int.reduceNe, Int.reduceLT, Int.reduceLE, Int.reduceGT, Int.reduceGE]
    exact OutP.nil N
  · rintro k fr M' ⟨i, hi, rfl, h3, h6, h9, h10, h11, hO⟩
    obtain ⟨s5, h5⟩ := hO.val
    rw [h5] at hO
    have hM3' := hO.base _ _ hM3
    simp -implicitDefEqProofs (maxSteps := 1000000) (disch := omega) only [↓xsP, ↓vc_seq, xsQ, xsT, xsR, xsD, ↓reduceIte, reduceCtorEq, eq_self, ne_eq, imp_self, forall_const, Nat.reduceEqDiff, Nat.reduceAdd, Nat.reduceSub, Nat.reduceMul, Nat.reduceLT, Nat.reduceLeDiff, Nat.reduceBEq, Nat.reduceDiv, Nat.reduceMod, Int.reduceToNat, Int.reduceNeg, Int.reduceAdd, Int.reduceSub, Int.reduceMul, Int.reduceEq, Int.reduceNe, Int.reduceLT, Int.reduceLE, Int.reduceGT, Int.reduceGE, h5, h3, h6, h9, h10, h11]
    refine condI_prop (fun hlt => ?_) (fun hlt => ?_)
    · have hi' : i < l.length := by omega
      have hwt := wrun_take (p := p) hi'
      have hwl := wrun_len p (l.take i)
      rw [List.length_take] at hwl
      obtain ⟨q, hq⟩ : ∃ q, l.getD i default = q := ⟨_, rfl⟩
      rw [hq] at hwt
      generalize wrun p (l.take i) = s at hwt hwl hO h6
      obtain ⟨o, d⟩ := s
      simp only at hwl hO h6
      simp -implicitDefEqProofs (maxSteps := 1000000) (disch := omega) only [↓xsP, ↓vc_seq, xsQ, xsT, xsR, xsD, ↓reduceIte, reduceCtorEq, eq_self, ne_eq, imp_self, forall_const, Nat.reduceEqDiff, Nat.reduceAdd, Nat.reduceSub, Nat.reduceMul, Nat.reduceLT, Nat.reduceLeDiff, Nat.reduceBEq, Nat.reduceDiv, Nat.reduceMod, Int.reduceToNat, Int.reduceNeg, Int.reduceAdd, Int.reduceSub, Int.reduceMul, Int.reduceEq, Int.reduceNe, Int.reduceLT, Int.reduceLE, Int.reduceGT, Int.reduceGE, h5, h3, h6, h9, h10, h11, hq]
      refine newI_intro fun p8 hp8 => ?_
      have h38 := lt_of_bnd hp8 hM3'
      simp -implicitDefEqProofs (maxSteps := 1000000) (disch := omega) only [↓xsP, ↓vc_seq, xsQ, xsT, xsR, xsD, ↓reduceIte, reduceCtorEq, eq_self, ne_eq, imp_self, forall_const, Nat.reduceEqDiff, Nat.reduceAdd, Nat.reduceSub, Nat.reduceMul, Nat.reduceLT, Nat.reduceLeDiff, Nat.reduceBEq, Nat.reduceDiv, Nat.reduceMod, Int.reduceToNat, Int.reduceNeg, Int.reduceAdd, Int.reduceSub, Int.reduceMul, Int.reduceEq, Int.reduceNe, Int.reduceLT, Int.reduceLE, Int.reduceGT, Int.reduceGE, h5, h3, h6, h9, h10, h11, hq, hM3']
      have hle8 : ∀ b, M'.le (M'.set p8 b) := fun b => le_new (Mem.le_refl _) hp8
      have hn8 : M' p8 = none := hp8 _ (Nat.le_refl _)
      -- the second half of a round
      cases d with
      | true =>
        have hw1 : wst p (o, true) q = (if q.key ≠ p.key then o ++ [q] else o, true) := by simp [wst]
        rw [hw1] at hwt
        simp -implicitDefEqProofs (maxSteps := 1000000) (disch := omega) only [↓xsP, ↓vc_seq, xsQ, xsT, xsR, xsD, ↓reduceIte, reduceCtorEq, eq_self, ne_eq, imp_self, forall_const, Nat.reduceEqDiff, Nat.reduceAdd, Nat.reduceSub, Nat.reduceMul, Nat.reduceLT, Nat.reduceLeDiff, Nat.reduceBEq, Nat.reduceDiv, Nat.reduceMod, Int.reduceToNat, Int.reduceNeg, Int.reduceAdd, Int.reduceSub, Int.reduceMul, Int.reduceEq, Int.reduceNe, Int.reduceLT, Int.reduceLE, Int.reduceGT, Int.reduceGE, h5, h3, h6, h9, h10, h11, hq, hM3']
        refine condI_prop (fun hk => ?_) (fun hk => ?_)
        · rw [if_pos hk] at hwt
          simp -implicitDefEqProofs (maxSteps := 1000000) (disch := omega) only [↓xsP, ↓vc_seq, xsQ, xsT, xsR, xsD, ↓reduceIte, reduceCtorEq, eq_self, ne_eq, imp_self, forall_const, Nat.reduceEqDiff, Nat.reduceAdd, Nat.reduceSub, Nat.reduceMul, Nat.reduceLT, Nat.reduceLeDiff, Nat.reduceBEq, Nat.reduceDiv, Nat.reduceMod, Int.reduceToNat, Int.reduceNeg, Int.reduceAdd, Int.reduceSub, Int.reduceMul, Int.reduceEq, Int.reduceNe, Int.reduceLT, Int.reduceLE, Int.reduceGT, Int.reduceGE, h5, h3, h6, h9, h10, h11, hq, hM3']
          refine newI_intro fun pb hpb => ?_
          simp -implicitDefEqProofs (maxSteps := 1000000) (disch := omega) only [↓xsP, ↓vc_seq, xsQ, xsT, xsR, xsD, ↓reduceIte, reduceCtorEq, eq_self, ne_eq, imp_self, forall_const, Nat.reduceEqDiff, Nat.reduceAdd, Nat.reduceSub, Nat.reduceMul, Nat.reduceLT, Nat.reduceLeDiff, Nat.reduceBEq, Nat.reduceDiv, Nat.reduceMod, Int.reduceToNat, Int.reduceNeg, Int.reduceAdd, Int.reduceSub, Int.reduceMul, Int.reduceEq, Int.reduceNe, Int.reduceLT, Int.reduceLE, Int.reduceGT, Int.reduceGE, h5, h3, h6, h9, h10, h11, hq, hM3']
          refine app_out (p := q) hO (hle8 _) hpb (by simp at hwl; omega) fun v' N' M2 hO2 hle2 _ => ?_
          obtain ⟨s5', rfl⟩ := hO2.val
          simp -implicitDefEqProofs (maxSteps := 1000000) (disch := omega) only [↓xsP, ↓vc_seq, xsQ, xsT, xsR, xsD, ↓reduceIte, reduceCtorEq, eq_self, ne_eq, imp_self, forall_const, Nat.reduceEqDiff, Nat.reduceAdd, Nat.reduceSub, Nat.reduceMul, Nat.reduceLT, Nat.reduceLeDiff, Nat.reduceBEq, Nat.reduceDiv, Nat.reduceMod, Int.reduceToNat, Int.reduceNeg, Int.reduceAdd, Int.reduceSub, Int.reduceMul, Int.reduceEq, Int.reduceNe, Int.reduceLT, Int.reduceLE, Int.reduceGT, Int.reduceGE, h5, h3, h6, h9, h10, h11, hq]
          exact ⟨l.length - (i + 1), M2, by omega, hle2, i + 1, by omega, rfl, by rw [hwt], rfl, by rw [hwt]; exact hO2⟩
        · rw [if_neg hk] at hwt
          simp -implicitDefEqProofs (maxSteps := 1000000) (disch := omega) only [↓xsP, ↓vc_seq, xsQ, xsT, xsR, xsD, ↓reduceIte, reduceCtorEq, eq_self, ne_eq, imp_self, forall_const, Nat.reduceEqDiff, Nat.reduceAdd, Nat.reduceSub, Nat.reduceMul, Nat.reduceLT, Nat.reduceLeDiff, Nat.reduceBEq, Nat.reduceDiv, Nat.reduceMod, Int.reduceToNat, Int.reduceNeg, Int.reduceAdd, Int.reduceSub, Int.reduceMul, Int.reduceEq, Int.reduceNe, Int.reduceLT, Int.reduceLE, Int.reduceGT, Int.reduceGE, h5, h3, h6, h9, h10, h11, hq, hM3']
          exact ⟨l.length - (i + 1), M', by omega, hle8 _, i + 1, by omega, rfl, by rw [hwt], rfl, by rw [hwt]; exact hO⟩
      | false =>
        simp -implicitDefEqProofs (maxSteps := 1000000) (disch := omega) only [↓xsP, ↓vc_seq, xsQ, xsT, xsR, xsD, ↓reduceIte, reduceCtorEq, eq_self, ne_eq, imp_self, forall_const, Nat.reduceEqDiff, Nat.reduceAdd, Nat.reduceSub, Nat.reduceMul, Nat.reduceLT, Nat.reduceLeDiff, Nat.reduceBEq, Nat.reduceDiv, Nat.reduceMod, Int.reduceToNat, Int.reduceNeg, Int.reduceAdd, Int.reduceSub, Int.reduceMul, Int.reduceEq, Int.reduceNe, Int.reduceLT, Int.reduceLE, Int.reduceGT, Int.reduceGE, h5, h3, h6, h9, h10, h11, hq, hM3']
        refine condI_prop (fun hge => ?_) (fun hge => ?_)
        · have hw1 : wst p (o, false) q = (if q.key ≠ p.key then o ++ [p] ++ [q] else o ++ [p], true) := by simp [wst, hge]
          rw [hw1] at hwt
          simp -implicitDefEqProofs (maxSteps := 1000000) (disch := omega) only [↓xsP, ↓vc_seq, xsQ, xsT, xsR, xsD, ↓reduceIte, reduceCtorEq, eq_self, ne_eq, imp_self, forall_const, Nat.reduceEqDiff, Nat.reduceAdd, Nat.reduceSub, Nat.reduceMul, Nat.reduceLT, Nat.reduceLeDiff, Nat.reduceBEq, Nat.reduceDiv, Nat.reduceMod, Int.reduceToNat, Int.reduceNeg, Int.reduceAdd, Int.reduceSub, Int.reduceMul, Int.reduceEq, Int.reduceNe, Int.reduceLT, Int.reduceLE, Int.reduceGT, Int.reduceGE, h5, h3, h6, h9, h10, h11, hq, hM3']
          refine newI_intro fun pb hpb => ?_
          simp -implicitDefEqProofs (maxSteps := 1000000) (disch := omega) only [↓xsP, ↓vc_seq, xsQ, xsT, xsR, xsD, ↓reduceIte, reduceCtorEq, eq_self, ne_eq, imp_self, forall_const, Nat.reduceEqDiff, Nat.reduceAdd, Nat.reduceSub, Nat.reduceMul, Nat.reduceLT, Nat.reduceLeDiff, Nat.reduceBEq, Nat.reduceDiv, Nat.reduceMod, Int.reduceToNat, Int.reduceNeg, Int.reduceAdd, Int.reduceSub, Int.reduceMul, Int.reduceEq, Int.reduceNe, Int.reduceLT, Int.reduceLE, Int.reduceGT, Int.reduceGE, h5, h3, h6, h9, h10, h11, hq, hM3']
          refine app_out (p := p) hO (hle8 _) hpb (by simp at hwl; omega) fun v' N' M2 hO2 hle2 hkeep => ?_
          obtain ⟨s5', h5'⟩ := hO2.val
          subst h5'
          have hN8 := hkeep _ _ (Mem.set_eq M' p8 _) hn8
          have hN3 := hle2 _ _ (hO2.base _ _ hM3)
          simp -implicitDefEqProofs (maxSteps := 1000000) (disch := omega) only [↓xsP, ↓vc_seq, xsQ, xsT, xsR, xsD, ↓reduceIte, reduceCtorEq, eq_self, ne_eq, imp_self, forall_const, Nat.reduceEqDiff, Nat.reduceAdd, Nat.reduceSub, Nat.reduceMul, Nat.reduceLT, Nat.reduceLeDiff, Nat.reduceBEq, Nat.reduceDiv, Nat.reduceMod, Int.reduceToNat, Int.reduceNeg, Int.reduceAdd, Int.reduceSub, Int.reduceMul, Int.reduceEq, Int.reduceNe, Int.reduceLT, Int.reduceLE, Int.reduceGT, Int.reduceGE, h5, h3, h6, h9, h10, h11, hq, hN8, hN3]
          refine condI_prop (fun hk => ?_) (fun hk => ?_)
          · rw [if_pos hk] at hwt
            simp -implicitDefEqProofs (maxSteps := 1000000) (disch := omega) only [↓xsP, ↓vc_seq, xsQ, xsT, xsR, xsD, ↓reduceIte, reduceCtorEq, eq_self, ne_eq, imp_self, forall_const, Nat.reduceEqDiff, Nat.reduceAdd, Nat.reduceSub, Nat.reduceMul, Nat.reduceLT, Nat.reduceLeDiff, Nat.reduceBEq, Nat.reduceDiv, Nat.reduceMod, Int.reduceToNat, Int.reduceNeg, Int.reduceAdd, Int.reduceSub, Int.reduceMul, Int.reduceEq, Int.reduceNe, Int.reduceLT, Int.reduceLE, Int.reduceGT, Int.reduceGE, h5, h3, h6, h9, h10, h11, hq, hN8, hN3]
            refine newI_intro fun pb2 hpb2 => ?_
            simp -implicitDefEqProofs (maxSteps := 1000000) (disch := omega) only [↓xsP, ↓vc_seq, xsQ, xsT, xsR, xsD, ↓reduceIte, reduceCtorEq, eq_self, ne_eq, imp_self, forall_const, Nat.reduceEqDiff, Nat.reduceAdd, Nat.reduceSub, Nat.reduceMul, Nat.reduceLT, Nat.reduceLeDiff, Nat.reduceBEq, Nat.reduceDiv, Nat.reduceMod, Int.reduceToNat, Int.reduceNeg, Int.reduceAdd, Int.reduceSub, Int.reduceMul, Int.reduceEq, Int.reduceNe, Int.reduceLT, Int.reduceLE, Int.reduceGT, Int.reduceGE, h5, h3, h6, h9, h10, h11, hq, hN8, hN3]
            refine app_out (p := q) hO2 hle2 hpb2 (by simp at hwl ⊢; omega) fun v2 N2 M3 hO3 hle3 _ => ?_
            obtain ⟨s6', rfl⟩ := hO3.val
            simp -implicitDefEqProofs (maxSteps := 1000000) (disch := omega) only [↓xsP, ↓vc_seq, xsQ, xsT, xsR, xsD, ↓reduceIte, reduceCtorEq, eq_self, ne_eq, imp_self, forall_const, Nat.reduceEqDiff, Nat.reduceAdd, Nat.reduceSub, Nat.reduceMul, Nat.reduceLT, Nat.reduceLeDiff, Nat.reduceBEq, Nat.reduceDiv, Nat.reduceMod, Int.reduceToNat, Int.reduceNeg, Int.reduceAdd, Int.reduceSub, Int.reduceMul, Int.reduceEq, Int.reduceNe, Int.reduceLT, Int.reduceLE, Int.reduceGT, Int.reduceGE, h5, h3, h6, h9, h10, h11, hq]
            exact ⟨l.length - (i + 1), M3, by omega, hle3, i + 1, by omega, rfl, by rw [hwt], rfl, by rw [hwt]; exact hO3⟩
          · rw [if_neg hk] at hwt
            simp -implicitDefEqProofs (maxSteps := 1000000) (disch := omega) only [↓xsP, ↓vc_seq, xsQ, xsT, xsR, xsD, ↓reduceIte, reduceCtorEq, eq_self, ne_eq, imp_self, forall_const, Nat.reduceEqDiff, Nat.reduceAdd, Nat.reduceSub, Nat.reduceMul, Nat.reduceLT, Nat.reduceLeDiff, Nat.reduceBEq, Nat.reduceDiv, Nat.reduceMod, Int.reduceToNat, Int.reduceNeg, Int.reduceAdd, Int.reduceSub, Int.reduceMul, Int.reduceEq, Int.reduceNe, Int.reduceLT, Int.reduceLE, Int.reduceGT, Int.reduceGE, h5, h3, h6, h9, h10, h11, hq, hN8, hN3]
            exact ⟨l.length - (i + 1), M2, by omega, hle2, i + 1, by omega, rfl, by rw [hwt], rfl, by rw [hwt]; exact hO2⟩
        · have hk : q.key ≠ p.key := by omega
          have hw1 : wst p (o, false) q = (o ++ [q], false) := by
            simp only [wst]
            rw [if_neg (show ¬ (True ∧ q.key ≥ p.key) from fun h => hge h.2), if_pos hk]
          rw [hw1] at hwt
          have hk' : (¬ q.key = p.key) = True := eq_true hk
          simp -implicitDefEqProofs (maxSteps := 1000000) (disch := omega) only [↓xsP, ↓vc_seq, xsQ, xsT, xsR, xsD, ↓reduceIte, reduceCtorEq, eq_self, ne_eq, imp_self, forall_const, Nat.reduceEqDiff, Nat.reduceAdd, Nat.reduceSub, Nat.reduceMul, Nat.reduceLT, Nat.reduceLeDiff, Nat.reduceBEq, Nat.reduceDiv, Nat.reduceMod, Int.reduceToNat, Int.reduceNeg, Int.reduceAdd, Int.reduceSub, Int.reduceMul, Int.reduceEq, Int.reduceNe, Int.reduceLT, Int.reduceLE, Int.reduceGT, Int.reduceGE, h5, h3, h6, h9, h10, h11, hq, hM3', hk']
          refine newI_intro fun pb hpb => ?_
          simp -implicitDefEqProofs (maxSteps := 1000000) (disch := omega) only [↓xsP, ↓vc_seq, xsQ, xsT, xsR, xsD, ↓reduceIte, reduceCtorEq, eq_self, ne_eq, imp_self, forall_const, Nat.reduceEqDiff, Nat.reduceAdd, Nat.reduceSub, Nat.reduceMul, Nat.reduceLT, Nat.reduceLeDiff, Nat.reduceBEq, Nat.reduceDiv, Nat.reduceMod, Int.reduceToNat, Int.reduceNeg, Int.reduceAdd, Int.reduceSub, Int.reduceMul, Int.reduceEq, Int.reduceNe, Int.reduceLT, Int.reduceLE, Int.reduceGT, Int.reduceGE, h5, h3, h6, h9, h10, h11, hq, hM3']
          refine app_out (p := q) hO (hle8 _) hpb (by simp at hwl; omega) fun v' N' M2 hO2 hle2 _ => ?_
          obtain ⟨s5', rfl⟩ := hO2.val
          simp -implicitDefEqProofs (maxSteps := 1000000) (disch := omega) only [↓xsP, ↓vc_seq, xsQ, xsT, xsR, xsD, ↓reduceIte, reduceCtorEq, eq_self, ne_eq, imp_self, forall_const, Nat.reduceEqDiff, Nat.reduceAdd, Nat.reduceSub, Nat.reduceMul, Nat.reduceLT, Nat.reduceLeDiff, Nat.reduceBEq, Nat.reduceDiv, Nat.reduceMod, Int.reduceToNat, Int.reduceNeg, Int.reduceAdd, Int.reduceSub, Int.reduceMul, Int.reduceEq, Int.reduceNe, Int.reduceLT, Int.reduceLE, Int.reduceGT, Int.reduceGE, h5, h3, h6, h9, h10, h11, hq]
          exact ⟨l.length - (i + 1), M2, by omega, hle2, i + 1, by omega, rfl, by rw [hwt], rfl, by rw [hwt]; exact hO2⟩
    · have hi' : i = l.length := by omega
      subst hi'
      rw [List.take_length] at hO h6
      have hwl := wrun_len p l
      rw [withR]
      generalize wrun p l = s at hwl hO h6 ⊢
      obtain ⟨o, d⟩ := s
      simp only at hwl hO h6 ⊢
      cases d with
      | true =>
        simp -implicitDefEqProofs (maxSteps := 1000000) (disch := omega) only [↓xsP, ↓vc_seq, xsQ, xsT, xsR, xsD, ↓reduceIte, reduceCtorEq, eq_self, ne_eq, imp_self, forall_const, Nat.reduceEqDiff, Nat.reduceAdd, Nat.reduceSub, Nat.reduceMul, Nat.reduceLT, Nat.reduceLeDiff, Nat.reduceBEq, Nat.reduceDiv, Nat.reduceMod, Int.reduceToNat, Int.reduceNeg, Int.reduceAdd, Int.reduceSub, Int.reduceMul, Int.reduceEq, Int.reduceNe, Int.reduceLT, Int.reduceLE, Int.reduceGT, Int.reduceGE, h5, h3, h6, h9, h10, h11, hM3']
        exact fin_out hO (Mem.le_refl _) hMN ⟨rfl, rfl⟩
      | false =>
        simp -implicitDefEqProofs (maxSteps := 1000000) (disch := omega) only [↓xsP, ↓vc_seq, xsQ, xsT, xsR, xsD, ↓reduceIte, reduceCtorEq, eq_self, ne_eq, imp_self, forall_const, Nat.reduceEqDiff, Nat.reduceAdd, Nat.reduceSub, Nat.reduceMul, Nat.reduceLT, Nat.reduceLeDiff, Nat.reduceBEq, Nat.reduceDiv, Nat.reduceMod, Int.reduceToNat, Int.reduceNeg, Int.reduceAdd, Int.reduceSub, Int.reduceMul, Int.reduceEq, Int.reduceNe, Int.reduceLT, Int.reduceLE, Int.reduceGT, Int.reduceGE, h5, h3, h6, h9, h10, h11, hM3']
        refine newI_intro fun pb hpb => ?_
        simp -implicitDefEqProofs (maxSteps := 1000000) (disch := omega) only [↓xsP, ↓vc_seq, xsQ, xsT, xsR, xsD, ↓reduceIte, reduceCtorEq, eq_self, ne_eq, imp_self, forall_const, Nat.reduceEqDiff, Nat.reduceAdd, Nat.reduceSub, Nat.reduceMul, Nat.reduceLT, Nat.reduceLeDiff, Nat.reduceBEq, Nat.reduceDiv, Nat.reduceMod, Int.reduceToNat, Int.reduceNeg, Int.reduceAdd, Int.reduceSub, Int.reduceMul, Int.reduceEq, Int.reduceNe, Int.reduceLT, Int.reduceLE, Int.reduceGT, Int.reduceGE, h5, h3, h6, h9, h10, h11, hM3']
        refine app_out (p := p) hO (Mem.le_refl _) hpb (by simp at hwl; omega) fun v' N' M2 hO2 hle2 _ => ?_
        obtain ⟨s5', rfl⟩ := hO2.val
        simp -implicitDefEqProofs (maxSteps := 1000000) (disch := omega) only [↓xsP, ↓vc_seq, xsQ, xsT, xsR, xsD, ↓reduceIte, reduceCtorEq, eq_self, ne_eq, imp_self, forall_const, Nat.reduceEqDiff, Nat.reduceAdd, Nat.reduceSub, Nat.reduceMul, Nat.reduceLT, Nat.reduceLeDiff, Nat.reduceBEq, Nat.reduceDiv, Nat.reduceMod, Int.reduceToNat, Int.reduceNeg, Int.reduceAdd, Int.reduceSub, Int.reduceMul, Int.reduceEq, Int.reduceNe, Int.reduceLT, Int.reduceLE, Int.reduceGT, Int.reduceGE, h5, h3, h6, h9, h10, h11]
        exact fin_out hO2 hle2 hMN ⟨rfl, rfl⟩
end Go.X
set_option linter.unusedVariables false
set_option linter.unusedSimpArgs false
set_option maxHeartbeats 20000000
set_option maxRecDepth 100000
namespace Go.X
open Go.Proofs.Try (prog)

theorem wfold_lt {p : Pr} : ∀ (A o : List Pr), (∀ a ∈ A, a.key < p.key) → A.foldl (wst p) (o, false) = (o ++ A, false)
  | [], o, _ => by simp
  | x :: r, o, h => by
    have hx := h x (by simp)
    have e : wst p (o, false) x = (o ++ [x], false) := by
      simp only [wst]
      rw [if_neg (show ¬ (True ∧ x.key ≥ p.key) from fun h => by omega), if_pos (by omega)]
    rw [List.foldl_cons, e, wfold_lt r _ fun a ha => h a (by simp [ha])]
    simp
theorem wfold_gt {p : Pr} : ∀ (C o : List Pr), (∀ c ∈ C, p.key < c.key) → C.foldl (wst p) (o, true) = (o ++ C, true)
  | [], o, _ => by simp
  | x :: r, o, h => by
    have hx := h x (by simp)
    have e : wst p (o, true) x = (o ++ [x], true) := by
      have : x.key ≠ p.key := by omega
      simp [wst, this]
    rw [List.foldl_cons, e, wfold_gt r _ fun a ha => h a (by simp [ha])]
    simp
theorem withR_eq {l : List Pr} (h : Asc l) (p : Pr) : withR l p = withL l p := by
  rcases forms p.key l h with ⟨A, C, hO⟩ | ⟨A, x, C, hI⟩
  · have hw : withL l p = A ++ p :: C := hO.with p.val
    rw [hw]
    obtain ⟨rfl, h1, h2⟩ := hO
    rw [withR, wrun, List.foldl_append, wfold_lt A _ h1]
    cases C with
    | nil => simp
    | cons c r =>
      have hc := h2 c (by simp)
      have e : wst p ([] ++ A, false) c = (A ++ [p] ++ [c], true) := by
        have h1 : c.key ≠ p.key := by omega
        have h2 : p.key ≤ c.key := by omega
        simp [wst, h1, h2]
      rw [List.foldl_cons, e, wfold_gt r _ fun a ha => h2 a (by simp [ha])]
      simp
  · have hw : withL l p = A ++ p :: C := hI.with p.val
    rw [hw]
    obtain ⟨rfl, hk, h1, h2⟩ := hI
    rw [withR, wrun, List.foldl_append, wfold_lt A _ h1]
    have e : wst p ([] ++ A, false) x = (A ++ [p], true) := by
      have h2 : p.key ≤ x.key := by omega
      simp [wst, hk, h2]
    rw [List.foldl_cons, e, wfold_gt C _ h2]
    simp
theorem withoutR_eq {l : List Pr} (h : Asc l) {op : Opn} (hk : op.kind = 3) : (l.filter fun p => decide (p.key ≠ op.key)) = oneL l op := by
  rcases one_forms op h (by omega) with ⟨A, C, hO, hc⟩ | ⟨A, x, C, hI, hc⟩
  · have e : oneL l op = l := by
      rcases hc with ⟨h', _⟩ | ⟨_, h'⟩
      · omega
      · exact h'
    rw [e]
    obtain ⟨rfl, h1, h2⟩ := hO
    refine List.filter_eq_self.2 fun a ha => ?_
    rcases List.mem_append.1 ha with h' | h'
    · have := h1 a h'; simp; omega
    · have := h2 a h'; simp; omega
  · have e : oneL l op = A ++ C := by
      rcases hc with ⟨h', _⟩ | ⟨_, h'⟩ | ⟨h', _⟩
      · omega
      · exact h'
      · omega
    rw [e]
    obtain ⟨rfl, hx, h1, h2⟩ := hI
    have f1 : A.filter (fun p => decide (p.key ≠ op.key)) = A := List.filter_eq_self.2 fun a ha => by have := h1 a ha; simp; omega
    have f2 : C.filter (fun p => decide (p.key ≠ op.key)) = C := List.filter_eq_self.2 fun a ha => by have := h2 a ha; simp; omega
    rw [List.filter_append, List.filter_cons, if_neg (by simp [hx]), f1, f2]

theorem app_clone {N : Mem} {l : List Pr} (hl : l.length ≤ 2000002) {K : AV → Mem → Prop} (hc : ∀ v M', OutP N v M' l → K v M') : @appI Go.Proofs.Try.prog N 27 27 (.l .nils) (.l (.sl (l.map Pr.row))) ⟨K⟩ := by
  refine app_nils _ _ _ _ 26 _ _ ti_27 rfl ti_26 (by kernel_rfl) (by decide) _ (l.map Pr.row) ?_ ?_ ?_ ?_ ?_
  · simp -implicitDefEqProofs (maxSteps := 1000000) (disch := omega) only [↓xsP, ↓vc_seq, xsQ, xsT, xsR, xsD, ↓reduceIte, reduceCtorEq, eq_self, ne_eq, imp_self, forall_const, Nat.reduceEqDiff, Nat.reduceAdd, Nat.reduceSub, Nat.reduceMul, Nat.reduceLT, Nat.reduceLeDiff, Nat.reduceBEq, Nat.reduceDiv, Nat.reduceMod, Int.reduceToNat, Int.reduceNeg, Int.reduceAdd, Int.reduceSub, Int.reduceMul, Int.reduceEq, Int.reduceNe, Int.reduceLT, Int.reduceLE, Int.reduceGT, Int.reduceGE]
    rw [if_pos (rows2 l)]
  · exact Nat.le_trans (Nat.mul_le_mul_right _ (show (l.map Pr.row).length ≤ 2000002 by simpa using hl)) (by decide)
  · simp; omega
  · intro h
    have : l = [] := by simpa using h
    exact hc _ _ (.inl ⟨this, rfl, rfl⟩)
  · intro _ id hid
    exact hc _ _ (.inr ⟨id, hid, by simp, rfl⟩)
/-- A slice that is kept, or is being made. -/
def OutQ (M : Mem) (s : Lf) (M' : Mem) (rows : List Pr) : Prop := s = .sl (rows.map Pr.row) ∨ OutP M (.l s) M' rows
theorem finI_outQ {M M' N : Mem} {s : Lf} {rows : List Pr} {a b c d e f : Lf} {K : AV → Mem → Prop} (p5 : Nat) (h : OutQ M s M' rows) (hle : ∀ k bk, k ≠ p5 → M' k = some bk → N k = some bk) {b5 : Blk} (h5 : M p5 = some b5) {M0 : Mem} (h0 : M0.le M) (h05 : M0 p5 = none) (hM : M.le M')
    (hf : ∀ id r, [a, b, c, d, e, f].map (frzL id r) = [a, b, c, d, e, f]) (hK : K (.tup [.l (.sl (rows.map Pr.row)), .agg ([a, b, c, d, e, f].map wkL)]) M0) : @finI Go.Proofs.Try.prog (.tup [.l s, .agg [a, b, c, d, e, f]]) N ⟨K⟩ := by
  refine finI_of ?_
  have hMN : M0.le N := fun k bk hk => hle _ _ (fun e => by subst e; rw [h05] at hk; cases hk) (hM _ _ (h0 _ _ hk))
  rcases h with rfl | ⟨rfl, h, rfl⟩ | ⟨idO, hO, h, rfl⟩
  · exact XFin.wk (XFin.le hMN hK)
  · cases h
    exact XFin.wk (XFin.le hMN hK)
  · cases h
    have hO5 := lt_of_bnd hO h5
    refine XFin.frz idO (hle _ _ (by omega) (Mem.set_eq _ _ _)) ?_
    have e2 : frzA idO (rows.map Pr.row) (.tup [.l (.ms idO 0 rows.length), .agg [a, b, c, d, e, f]]) = .tup [.l (.sl (rows.map Pr.row)), .agg [a, b, c, d, e, f]] := by
      have := hf idO (rows.map Pr.row)
      simp only [frzA, frz1, List.map_cons, List.map_nil] at this ⊢
      rw [this]
      simp [frzL, List.take_of_length_le]
    rw [e2]
    refine XFin.wk (XFin.le (M' := M0) (fun k bk hk => ?_) hK)
    have hk' := h0 _ _ hk
    have := lt_of_bnd hO hk'
    rw [Mem.set_ne _ _ _ _ (by omega)]
    exact hMN _ _ hk

theorem doR_spec (l : List Pr) (hl : l.length ≤ 1000000) (op : Opn) (M : Mem) :
    XCalls Go.Proofs.Try.prog 23 [.l (.sl (l.map Pr.row)), .agg op.row] M fun r M' => r = .tup [.l (.sl ((doL l op).map Pr.row)), .agg (doA l op).row] ∧ M' = M := by
  refine xcalls_intro (rs := [.tmp 4, .cell 5 29]) Go.Proofs.Try.func23 rfl (by kernel_rfl) rfl rfl (by kernel_rfl) (by simp) ?_
  simp -implicitDefEqProofs (maxSteps := 1000000) (disch := omega) only [↓xsP, ↓vc_seq, xsQ, xsT, xsR, xsD, ↓reduceIte, reduceCtorEq, eq_self, ne_eq, imp_self, forall_const, Nat.reduceEqDiff, Nat.reduceAdd, Nat.reduceSub, Nat.reduceMul, Nat.reduceLT, Nat.reduceLeDiff, Nat.reduceBEq, Nat.reduceDiv, Nat.reduceMod, Int.reduceToNat, Int.reduceNeg, Int.reduceAdd, Int.reduceSub, Int.reduceMul, Int.reduceEq, Int.reduceNe, Int.reduceLT, Int.reduceLE, Int.reduceGT, Int.reduceGE]
  refine newI_intro fun p3 hp3 => ?_
  simp -implicitDefEqProofs (maxSteps := 1000000) (disch := omega) only [↓xsP, ↓vc_seq, xsQ, xsT, xsR, xsD, ↓reduceIte, reduceCtorEq, eq_self, ne_eq, imp_self, forall_const, Nat.reduceEqDiff, Nat.reduceAdd, Nat.reduceSub, Nat.reduceMul, Nat.reduceLT, Nat.reduceLeDiff, Nat.reduceBEq, Nat.reduceDiv, Nat.reduceMod, Int.reduceToNat, Int.reduceNeg, Int.reduceAdd, Int.reduceSub, Int.reduceMul, Int.reduceEq, Int.reduceNe, Int.reduceLT, Int.reduceLE, Int.reduceGT, Int.reduceGE]
  refine newI_intro fun p5 hp5 => ?_
  obtain ⟨h35, hp5⟩ := bnd_new hp5
  have hM3 : ((M.set p3 (.cells 23 [op.row] 0)).set p5 (.cells 29 [arow ans0] 0)) p3 = some (.cells 23 [op.row] 0) := by
    rw [Mem.set_ne _ _ _ _ (by omega), Mem.set_eq]
  have hM5 := Mem.set_eq (M.set p3 (.cells 23 [op.row] 0)) p5 (.cells 29 [arow ans0] 0)
  have hMN : M.le ((M.set p3 (.cells 23 [op.row] 0)).set p5 (.cells 29 [arow ans0] 0)) := le_new (le_new (Mem.le_refl M) hp3) hp5
  simp only [Opn.row, arow, ans0] at hM3 hM5 hMN
  simp -implicitDefEqProofs (maxSteps := 1000000) (disch := omega) only [↓xsP, ↓vc_seq, xsQ, xsT, xsR, xsD, ↓reduceIte, reduceCtorEq, eq_self, ne_eq, imp_self, forall_const, Nat.reduceEqDiff, Nat.reduceAdd, Nat.reduceSub, Nat.reduceMul, Nat.reduceLT, Nat.reduceLeDiff, Nat.reduceBEq, Nat.reduceDiv, Nat.reduceMod, Int.reduceToNat, Int.reduceNeg, Int.reduceAdd, Int.reduceSub, Int.reduceMul, Int.reduceEq, Int.reduceNe, Int.reduceLT, Int.reduceLE, Int.reduceGT, Int.reduceGE]
  generalize (M.set p3 _).set p5 _ = N at hM3 hM5 hMN ⊢
  refine app_clone (by omega) fun v M1 hO => ?_
  obtain ⟨s6, rfl⟩ := hO.val
  have hN1 := hO.base
  have h13 := hN1 _ _ hM3
  have h15 := hN1 _ _ hM5
  simp -implicitDefEqProofs (maxSteps := 1000000) (disch := omega) only [↓xsP, ↓vc_seq, xsQ, xsT, xsR, xsD, ↓reduceIte, reduceCtorEq, eq_self, ne_eq, imp_self, forall_const, Nat.reduceEqDiff, Nat.reduceAdd, Nat.reduceSub, Nat.reduceMul, Nat.reduceLT, Nat.reduceLeDiff, Nat.reduceBEq, Nat.reduceDiv, Nat.reduceMod, Int.reduceToNat, Int.reduceNeg, Int.reduceAdd, Int.reduceSub, Int.reduceMul, Int.reduceEq, Int.reduceNe, Int.reduceLT, Int.reduceLE, Int.reduceGT, Int.reduceGE]
  refine call_of (mayPairs_spec l (by omega) _) ?_
  cases hr : bof (Rises l) with
  | false =>
    have hk : okOp l op = false := by rw [okOp, hr]; rfl
    simp -implicitDefEqProofs (maxSteps := 1000000) (disch := omega) only [↓xsP, ↓vc_seq, xsQ, xsT, xsR, xsD, ↓reduceIte, reduceCtorEq, eq_self, ne_eq, imp_self, forall_const, Nat.reduceEqDiff, Nat.reduceAdd, Nat.reduceSub, Nat.reduceMul, Nat.reduceLT, Nat.reduceLeDiff, Nat.reduceBEq, Nat.reduceDiv, Nat.reduceMod, Int.reduceToNat, Int.reduceNeg, Int.reduceAdd, Int.reduceSub, Int.reduceMul, Int.reduceEq, Int.reduceNe, Int.reduceLT, Int.reduceLE, Int.reduceGT, Int.reduceGE, h15]
    refine finI_outQ p5 (.inr hO) (fun k bk hk hh => by rw [Mem.set_ne _ _ _ _ (Ne.symm hk)]; exact hh) hM5 hMN (hp5 _ (Nat.le_refl _)) hN1 (fun _ _ => rfl) ⟨?_, rfl⟩
    rw [doL, doA, if_pos hk, if_pos hk]
    rfl
  | true =>
    simp -implicitDefEqProofs (maxSteps := 1000000) (disch := omega) only [↓xsP, ↓vc_seq, xsQ, xsT, xsR, xsD, ↓reduceIte, reduceCtorEq, eq_self, ne_eq, imp_self, forall_const, Nat.reduceEqDiff, Nat.reduceAdd, Nat.reduceSub, Nat.reduceMul, Nat.reduceLT, Nat.reduceLeDiff, Nat.reduceBEq, Nat.reduceDiv, Nat.reduceMod, Int.reduceToNat, Int.reduceNeg, Int.reduceAdd, Int.reduceSub, Int.reduceMul, Int.reduceEq, Int.reduceNe, Int.reduceLT, Int.reduceLE, Int.reduceGT, Int.reduceGE, h13]
    refine call_of (mayOpR_spec op _) ?_
    cases hm : mayOpB op with
    | false =>
      have hk : okOp l op = false := by rw [okOp, hr, hm]; rfl
      simp -implicitDefEqProofs (maxSteps := 1000000) (disch := omega) only [↓xsP, ↓vc_seq, xsQ, xsT, xsR, xsD, ↓reduceIte, reduceCtorEq, eq_self, ne_eq, imp_self, forall_const, Nat.reduceEqDiff, Nat.reduceAdd, Nat.reduceSub, Nat.reduceMul, Nat.reduceLT, Nat.reduceLeDiff, Nat.reduceBEq, Nat.reduceDiv, Nat.reduceMod, Int.reduceToNat, Int.reduceNeg, Int.reduceAdd, Int.reduceSub, Int.reduceMul, Int.reduceEq, Int.reduceNe, Int.reduceLT, Int.reduceLE, Int.reduceGT, Int.reduceGE, h15]
      refine finI_outQ p5 (.inr hO) (fun k bk hk hh => by rw [Mem.set_ne _ _ _ _ (Ne.symm hk)]; exact hh) hM5 hMN (hp5 _ (Nat.le_refl _)) hN1 (fun _ _ => rfl) ⟨?_, rfl⟩
      rw [doL, doA, if_pos hk, if_pos hk]
      rfl
    | true =>
      have hP : Asc l := (rises_asc l).1 (bof_iff.1 hr)
      simp -implicitDefEqProofs (maxSteps := 1000000) (disch := omega) only [↓xsP, ↓vc_seq, xsQ, xsT, xsR, xsD, ↓reduceIte, reduceCtorEq, eq_self, ne_eq, imp_self, forall_const, Nat.reduceEqDiff, Nat.reduceAdd, Nat.reduceSub, Nat.reduceMul, Nat.reduceLT, Nat.reduceLeDiff, Nat.reduceBEq, Nat.reduceDiv, Nat.reduceMod, Int.reduceToNat, Int.reduceNeg, Int.reduceAdd, Int.reduceSub, Int.reduceMul, Int.reduceEq, Int.reduceNe, Int.reduceLT, Int.reduceLE, Int.reduceGT, Int.reduceGE, h13, h15]
      refine newI_intro fun p7 hp7 => ?_
      have h37 := lt_of_bnd hp7 h13
      have h57 := lt_of_bnd hp7 h15
      have hok : ¬ okOp l op = false := by rw [okOp, hr, hm]; simp
      have hmk := may_kind hm
      have hget : ∀ {k : Int}, op.kind = k → 4 ≤ k → doL l op = l := fun h1 h2 => doL_read (by omega)
      have hle7 : ∀ b, M1.le (M1.set p7 b) := fun b => le_new (Mem.le_refl _) hp7
      obtain ⟨a0, ha0⟩ : ∃ a0 : Ans, a0 = if 0 ≤ place l op.key ∧ op.kind ≤ 4 then ⟨0, true, l.getD (place l op.key).toNat default, 0, []⟩ else ans0 := ⟨_, rfl⟩
      have ha04 : op.kind ≤ 4 → a0 = doA l op := fun h4 => by
        rw [doA_one hP hm h4, ha0, ansAt]
        by_cases h0 : 0 ≤ place l op.key
        · rw [if_pos ⟨h0, h4⟩, if_pos h0]
        · rw [if_neg (fun h => h0 h.1), if_neg h0]
      have ha05 : 5 ≤ op.kind → a0 = ans0 := fun h5 => by rw [ha0, if_neg (by omega)]
      have hpn : a0.pairs = [] := by rw [ha0]; split <;> rfl
      simp -implicitDefEqProofs (maxSteps := 1000000) (disch := omega) only [↓xsP, xsQ, xsT, xsR, xsD, ↓reduceIte, reduceCtorEq, eq_self, ne_eq, imp_self, forall_const, Nat.reduceEqDiff, Nat.reduceAdd, Nat.reduceSub, Nat.reduceMul, Nat.reduceLT, Nat.reduceLeDiff, Nat.reduceBEq, Nat.reduceDiv, Nat.reduceMod, Int.reduceToNat, Int.reduceNeg, Int.reduceAdd, Int.reduceSub, Int.reduceMul, Int.reduceEq, Int.reduceNe, Int.reduceLT, Int.reduceLE, Int.reduceGT, Int.reduceGE]
      refine vc_cut (fun fr N' => fr 0 = .l (.sl (l.map Pr.row)) ∧ fr 3 = .l (.ptr p3 0 0) ∧ fr 5 = .l (.ptr p5 0 0) ∧ fr 6 = .l s6 ∧ fr 7 = .l (.ptr p7 0 0) ∧ N' = M1.set p7 (.cells 29 [arow a0] 0)) ?_ ?_
      · have hfs := fun N => findR_spec l (by omega) op.key N
        rcases place_cases l op.key with ⟨hp, _⟩ | ⟨i, hi, hp, _, _⟩
        · have ha0' : arow a0 = arow ans0 := by rw [ha0, hp, if_neg (by omega)]
          rw [ha0']
          rw [hp] at hfs
          simp -implicitDefEqProofs (maxSteps := 1000000) (disch := omega) only [↓xsP, ↓vc_seq, xsQ, xsT, xsR, xsD, ↓reduceIte, reduceCtorEq, eq_self, ne_eq, imp_self, forall_const, Nat.reduceEqDiff, Nat.reduceAdd, Nat.reduceSub, Nat.reduceMul, Nat.reduceLT, Nat.reduceLeDiff, Nat.reduceBEq, Nat.reduceDiv, Nat.reduceMod, Int.reduceToNat, Int.reduceNeg, Int.reduceAdd, Int.reduceSub, Int.reduceMul, Int.reduceEq, Int.reduceNe, Int.reduceLT, Int.reduceLE, Int.reduceGT, Int.reduceGE, h13, h15]
          refine call_of (hfs _) ?_
          simp -implicitDefEqProofs (maxSteps := 1000000) (disch := omega) only [↓xsP, ↓vc_seq, xsQ, xsT, xsR, xsD, ↓reduceIte, reduceCtorEq, eq_self, ne_eq, imp_self, forall_const, Nat.reduceEqDiff, Nat.reduceAdd, Nat.reduceSub, Nat.reduceMul, Nat.reduceLT, Nat.reduceLeDiff, Nat.reduceBEq, Nat.reduceDiv, Nat.reduceMod, Int.reduceToNat, Int.reduceNeg, Int.reduceAdd, Int.reduceSub, Int.reduceMul, Int.reduceEq, Int.reduceNe, Int.reduceLT, Int.reduceLE, Int.reduceGT, Int.reduceGE, h13, h15, arow, ans0]
        · have q0 : (0 ≤ (i : Int)) = True := eq_true (by omega)
          rw [hp] at hfs
          by_cases h4 : op.kind ≤ 4
          · have q4 : (op.kind ≤ 4) = True := eq_true h4
            have ha0' : arow a0 = arow ⟨0, true, l.getD i default, 0, []⟩ := by rw [ha0, hp, if_pos ⟨by omega, h4⟩]; rfl
            rw [ha0']
            simp -implicitDefEqProofs (maxSteps := 1000000) (disch := omega) only [↓xsP, ↓vc_seq, xsQ, xsT, xsR, xsD, ↓reduceIte, reduceCtorEq, eq_self, ne_eq, imp_self, forall_const, Nat.reduceEqDiff, Nat.reduceAdd, Nat.reduceSub, Nat.reduceMul, Nat.reduceLT, Nat.reduceLeDiff, Nat.reduceBEq, Nat.reduceDiv, Nat.reduceMod, Int.reduceToNat, Int.reduceNeg, Int.reduceAdd, Int.reduceSub, Int.reduceMul, Int.reduceEq, Int.reduceNe, Int.reduceLT, Int.reduceLE, Int.reduceGT, Int.reduceGE, h13, h15, q0, q4]
            refine call_of (hfs _) ?_
            simp -implicitDefEqProofs (maxSteps := 1000000) (disch := omega) only [↓xsP, ↓vc_seq, xsQ, xsT, xsR, xsD, ↓reduceIte, reduceCtorEq, eq_self, ne_eq, imp_self, forall_const, Nat.reduceEqDiff, Nat.reduceAdd, Nat.reduceSub, Nat.reduceMul, Nat.reduceLT, Nat.reduceLeDiff, Nat.reduceBEq, Nat.reduceDiv, Nat.reduceMod, Int.reduceToNat, Int.reduceNeg, Int.reduceAdd, Int.reduceSub, Int.reduceMul, Int.reduceEq, Int.reduceNe, Int.reduceLT, Int.reduceLE, Int.reduceGT, Int.reduceGE, h13, h15, q0, q4, arow]
          · have q4 : (op.kind ≤ 4) = False := eq_false h4
            have ha0' : arow a0 = arow ans0 := by rw [ha0, if_neg (fun h => h4 h.2)]
            rw [ha0']
            simp -implicitDefEqProofs (maxSteps := 1000000) (disch := omega) only [↓xsP, ↓vc_seq, xsQ, xsT, xsR, xsD, ↓reduceIte, reduceCtorEq, eq_self, ne_eq, imp_self, forall_const, Nat.reduceEqDiff, Nat.reduceAdd, Nat.reduceSub, Nat.reduceMul, Nat.reduceLT, Nat.reduceLeDiff, Nat.reduceBEq, Nat.reduceDiv, Nat.reduceMod, Int.reduceToNat, Int.reduceNeg, Int.reduceAdd, Int.reduceSub, Int.reduceMul, Int.reduceEq, Int.reduceNe, Int.reduceLT, Int.reduceLE, Int.reduceGT, Int.reduceGE, h13, h15, q0, q4]
            refine call_of (hfs _) ?_
            simp -implicitDefEqProofs (maxSteps := 1000000) (disch := omega) only [↓xsP, ↓vc_seq, xsQ, xsT, xsR, xsD, ↓reduceIte, reduceCtorEq, eq_self, ne_eq, imp_self, forall_const, Nat.reduceEqDiff, Nat.reduceAdd, Nat.reduceSub, Nat.reduceMul, Nat.reduceLT, Nat.reduceLeDiff, Nat.reduceBEq, Nat.reduceDiv, Nat.reduceMod, Int.reduceToNat, Int.reduceNeg, Int.reduceAdd, Int.reduceSub, Int.reduceMul, Int.reduceEq, Int.reduceNe, Int.reduceLT, Int.reduceLE, Int.reduceGT, Int.reduceGE, h13, h15, q0, q4, arow, ans0]
      · rintro fr N' ⟨h0, h3, h5, h6, h7, rfl⟩
        simp only [arow]
        refine vc_cut (fun fr N' => fr 5 = .l (.ptr p5 0 0) ∧ fr 7 = .l (.ptr p7 0 0) ∧ ∃ s a b c d e f, fr 6 = .l s ∧ OutQ N s M1 (doL l op) ∧ N' = M1.set p7 (.cells 29 [[a, b, c, d, e, f]] 0) ∧ [a, b, c, d, e, f].map wkL = (doA l op).row ∧ ∀ id r, [a, b, c, d, e, f].map (frzL id r) = [a, b, c, d, e, f]) ?_ ?_
        · have hq1 : ∀ b c k bk, k ≠ p5 → M1 k = some bk → ((M1.set p7 b).set p5 c) k = some bk := fun b c k bk hk hh => by
            rw [Mem.set_ne _ _ _ _ (Ne.symm hk)]
            exact hle7 _ _ _ hh
          have hok4 : op.kind ≤ 4 → a0.ok = decide (0 ≤ place l op.key) := fun h4 => by
            rw [ha0]
            by_cases h0p : 0 ≤ place l op.key
            · rw [if_pos ⟨h0p, h4⟩]; simp [h0p]
            · rw [if_neg (fun h => h0p h.1)]; simp [h0p, ans0]
          have ha0w : op.kind ≤ 4 → [Lf.int .i64 a0.err, .bool a0.ok, .int .i64 a0.pair.key, .int .i64 a0.pair.val, .int .i64 a0.n, .nils].map wkL = (doA l op).row := fun h4 => by
            rw [← ha04 h4]
            simp [wkL, Ans.row, hpn]
          have kcases : op.kind = 1 ∨ op.kind = 2 ∨ op.kind = 3 ∨ op.kind = 4 ∨ op.kind = 5 ∨ op.kind = 6 ∨ op.kind = 7 ∨ op.kind = 8 := by omega
          rcases kcases with k | k | k | k | k | k | k | k
          · simp -implicitDefEqProofs (maxSteps := 1000000) (disch := omega) only [↓xsP, ↓vc_seq, xsQ, xsT, xsR, xsD, ↓reduceIte, reduceCtorEq, eq_self, ne_eq, imp_self, forall_const, Nat.reduceEqDiff, Nat.reduceAdd, Nat.reduceSub, Nat.reduceMul, Nat.reduceLT, Nat.reduceLeDiff, Nat.reduceBEq, Nat.reduceDiv, Nat.reduceMod, Int.reduceToNat, Int.reduceNeg, Int.reduceAdd, Int.reduceSub, Int.reduceMul, Int.reduceEq, Int.reduceNe, Int.reduceLT, Int.reduceLE, Int.reduceGT, Int.reduceGE, h0, h3, h5, h6, h7, h13, h15, k]
            refine xwrite (fun n0 => [ (9, p5)]) [9] [] [[], [], [], [], [], [], [], [], [], []] (by kernel_rfl) (by kernel_rfl) (by kernel_rfl) (by kernel_rfl) (fun n0 hn0 => ⟨rfl, ?_, ?_⟩)
            · exact TOk_cons (.inl (lt_of_bnd hn0 (hle7 _ _ _ h15))) (TOk_nil _ _)
            · have h5n := lt_of_bnd hn0 (hle7 _ _ _ h15)
              have h3n := lt_of_bnd hn0 (hle7 _ _ _ h13)
              have h7n := lt_of_bnd hn0 (Mem.set_eq _ p7 _)
              simp -implicitDefEqProofs (maxSteps := 1000000) (disch := omega) only [↓xsP, ↓vc_seq, xsQ, xsT, xsR, xsD, ↓reduceIte, reduceCtorEq, eq_self, ne_eq, imp_self, forall_const, Nat.reduceEqDiff, Nat.reduceAdd, Nat.reduceSub, Nat.reduceMul, Nat.reduceLT, Nat.reduceLeDiff, Nat.reduceBEq, Nat.reduceDiv, Nat.reduceMod, Int.reduceToNat, Int.reduceNeg, Int.reduceAdd, Int.reduceSub, Int.reduceMul, Int.reduceEq, Int.reduceNe, Int.reduceLT, Int.reduceLE, Int.reduceGT, Int.reduceGE, h0, h3, h5, h6, h7, h13, h15, k]
              refine wcallI_of (fun M' _ => withR_spec l hl ⟨op.key, op.val⟩ M') ?_
              simp -implicitDefEqProofs (maxSteps := 1000000) (disch := omega) only [↓xsP, ↓vc_seq, xsQ, xsT, xsR, xsD, ↓reduceIte, reduceCtorEq, eq_self, ne_eq, imp_self, forall_const, Nat.reduceEqDiff, Nat.reduceAdd, Nat.reduceSub, Nat.reduceMul, Nat.reduceLT, Nat.reduceLeDiff, Nat.reduceBEq, Nat.reduceDiv, Nat.reduceMod, Int.reduceToNat, Int.reduceNeg, Int.reduceAdd, Int.reduceSub, Int.reduceMul, Int.reduceEq, Int.reduceNe, Int.reduceLT, Int.reduceLE, Int.reduceGT, Int.reduceGE, h0, h3, h5, h6, h7, h13, h15, k]
              refine finI_outQ p5 (M' := M1) (rows := doL l op) (.inl ?_) (hq1 _ _) hM5 hMN (hp5 _ (Nat.le_refl _)) hN1 (fun _ _ => rfl) ⟨?_, rfl⟩
              · rw [withR_eq hP, doL_upd hP hm (by omega), oneL, if_pos (.inl k)]
              · rw [ha0w (by omega)]
                rfl
          · by_cases h0p : 0 ≤ place l op.key
            · have hokv : a0.ok = true := by rw [hok4 (by omega)]; simp [h0p]
              simp -implicitDefEqProofs (maxSteps := 1000000) (disch := omega) only [↓xsP, ↓vc_seq, xsQ, xsT, xsR, xsD, ↓reduceIte, reduceCtorEq, eq_self, ne_eq, imp_self, forall_const, Nat.reduceEqDiff, Nat.reduceAdd, Nat.reduceSub, Nat.reduceMul, Nat.reduceLT, Nat.reduceLeDiff, Nat.reduceBEq, Nat.reduceDiv, Nat.reduceMod, Int.reduceToNat, Int.reduceNeg, Int.reduceAdd, Int.reduceSub, Int.reduceMul, Int.reduceEq, Int.reduceNe, Int.reduceLT, Int.reduceLE, Int.reduceGT, Int.reduceGE, h0, h3, h5, h6, h7, h13, h15, k, hokv]
              refine ⟨_, _, _, _, _, _, _, rfl, .inr ?_, rfl, ?_, fun _ _ => rfl⟩
              · rw [doL_upd hP hm (by omega), oneL, if_neg (by omega), if_neg (by omega)]
                exact hO
              · have := ha0w (by omega)
                rw [hokv] at this
                exact this
            · have hokv : a0.ok = false := by rw [hok4 (by omega)]; simp [h0p]
              simp -implicitDefEqProofs (maxSteps := 1000000) (disch := omega) only [↓xsP, ↓vc_seq, xsQ, xsT, xsR, xsD, ↓reduceIte, reduceCtorEq, eq_self, ne_eq, imp_self, forall_const, Nat.reduceEqDiff, Nat.reduceAdd, Nat.reduceSub, Nat.reduceMul, Nat.reduceLT, Nat.reduceLeDiff, Nat.reduceBEq, Nat.reduceDiv, Nat.reduceMod, Int.reduceToNat, Int.reduceNeg, Int.reduceAdd, Int.reduceSub, Int.reduceMul, Int.reduceEq, Int.reduceNe, Int.reduceLT, Int.reduceLE, Int.reduceGT, Int.reduceGE, h0, h3, h5, h6, h7, h13, h15, k, hokv]
              refine call_of (withR_spec l hl ⟨op.key, op.val⟩ _) ?_
              simp -implicitDefEqProofs (maxSteps := 1000000) (disch := omega) only [↓xsP, ↓vc_seq, xsQ, xsT, xsR, xsD, ↓reduceIte, reduceCtorEq, eq_self, ne_eq, imp_self, forall_const, Nat.reduceEqDiff, Nat.reduceAdd, Nat.reduceSub, Nat.reduceMul, Nat.reduceLT, Nat.reduceLeDiff, Nat.reduceBEq, Nat.reduceDiv, Nat.reduceMod, Int.reduceToNat, Int.reduceNeg, Int.reduceAdd, Int.reduceSub, Int.reduceMul, Int.reduceEq, Int.reduceNe, Int.reduceLT, Int.reduceLE, Int.reduceGT, Int.reduceGE, h0, h3, h5, h6, h7, h13, h15, k, hokv]
              refine ⟨_, _, _, _, _, _, _, rfl, .inl ?_, rfl, ?_, fun _ _ => rfl⟩
              · rw [withR_eq hP, doL_upd hP hm (by omega), oneL, if_pos (.inr ⟨k, by omega⟩)]
              · have := ha0w (by omega)
                rw [hokv] at this
                exact this
          · simp -implicitDefEqProofs (maxSteps := 1000000) (disch := omega) only [↓xsP, ↓vc_seq, xsQ, xsT, xsR, xsD, ↓reduceIte, reduceCtorEq, eq_self, ne_eq, imp_self, forall_const, Nat.reduceEqDiff, Nat.reduceAdd, Nat.reduceSub, Nat.reduceMul, Nat.reduceLT, Nat.reduceLeDiff, Nat.reduceBEq, Nat.reduceDiv, Nat.reduceMod, Int.reduceToNat, Int.reduceNeg, Int.reduceAdd, Int.reduceSub, Int.reduceMul, Int.reduceEq, Int.reduceNe, Int.reduceLT, Int.reduceLE, Int.reduceGT, Int.reduceGE, h0, h3, h5, h6, h7, h13, h15, k]
            refine call_of (without_spec l (by omega) op.key _) ?_
            simp -implicitDefEqProofs (maxSteps := 1000000) (disch := omega) only [↓xsP, ↓vc_seq, xsQ, xsT, xsR, xsD, ↓reduceIte, reduceCtorEq, eq_self, ne_eq, imp_self, forall_const, Nat.reduceEqDiff, Nat.reduceAdd, Nat.reduceSub, Nat.reduceMul, Nat.reduceLT, Nat.reduceLeDiff, Nat.reduceBEq, Nat.reduceDiv, Nat.reduceMod, Int.reduceToNat, Int.reduceNeg, Int.reduceAdd, Int.reduceSub, Int.reduceMul, Int.reduceEq, Int.reduceNe, Int.reduceLT, Int.reduceLE, Int.reduceGT, Int.reduceGE, h0, h3, h5, h6, h7, h13, h15, k]
            refine ⟨_, _, _, _, _, _, _, rfl, .inl ?_, rfl, ha0w (by omega), fun _ _ => rfl⟩
            rw [withoutR_eq hP k, doL_upd hP hm (by omega)]
          · simp -implicitDefEqProofs (maxSteps := 1000000) (disch := omega) only [↓xsP, ↓vc_seq, xsQ, xsT, xsR, xsD, ↓reduceIte, reduceCtorEq, eq_self, ne_eq, imp_self, forall_const, Nat.reduceEqDiff, Nat.reduceAdd, Nat.reduceSub, Nat.reduceMul, Nat.reduceLT, Nat.reduceLeDiff, Nat.reduceBEq, Nat.reduceDiv, Nat.reduceMod, Int.reduceToNat, Int.reduceNeg, Int.reduceAdd, Int.reduceSub, Int.reduceMul, Int.reduceEq, Int.reduceNe, Int.reduceLT, Int.reduceLE, Int.reduceGT, Int.reduceGE, h0, h3, h5, h6, h7, h13, h15, k]
            refine ⟨_, _, _, _, _, _, _, rfl, .inr ?_, rfl, ha0w (by omega), fun _ _ => rfl⟩
            rw [hget k (by omega)]
            exact hO
          · have ha0' := ha05 (by omega)
            subst ha0'
            have hdo : doA l op = ⟨0, false, ⟨0, 0⟩, (rng l op.key op.to).length, rng l op.key op.to⟩ := by rw [doA, if_neg hok, if_pos k]; rfl
            simp -implicitDefEqProofs (maxSteps := 1000000) (disch := omega) only [↓xsP, ↓vc_seq, xsQ, xsT, xsR, xsD, ↓reduceIte, reduceCtorEq, eq_self, ne_eq, imp_self, forall_const, Nat.reduceEqDiff, Nat.reduceAdd, Nat.reduceSub, Nat.reduceMul, Nat.reduceLT, Nat.reduceLeDiff, Nat.reduceBEq, Nat.reduceDiv, Nat.reduceMod, Int.reduceToNat, Int.reduceNeg, Int.reduceAdd, Int.reduceSub, Int.reduceMul, Int.reduceEq, Int.reduceNe, Int.reduceLT, Int.reduceLE, Int.reduceGT, Int.reduceGE, h0, h3, h5, h6, h7, h13, h15, k, ans0]
            refine call_of (between_spec l (by omega) op.key op.to _) ?_
            simp -implicitDefEqProofs (maxSteps := 1000000) (disch := omega) only [↓xsP, ↓vc_seq, xsQ, xsT, xsR, xsD, ↓reduceIte, reduceCtorEq, eq_self, ne_eq, imp_self, forall_const, Nat.reduceEqDiff, Nat.reduceAdd, Nat.reduceSub, Nat.reduceMul, Nat.reduceLT, Nat.reduceLeDiff, Nat.reduceBEq, Nat.reduceDiv, Nat.reduceMod, Int.reduceToNat, Int.reduceNeg, Int.reduceAdd, Int.reduceSub, Int.reduceMul, Int.reduceEq, Int.reduceNe, Int.reduceLT, Int.reduceLE, Int.reduceGT, Int.reduceGE, h0, h3, h5, h6, h7, h13, h15, k, ans0]
            refine ⟨_, _, _, _, _, _, _, rfl, .inr ?_, rfl, by rw [hdo]; rfl, fun _ _ => rfl⟩
            rw [hget k (by omega)]
            exact hO
          · have ha0' := ha05 (by omega)
            subst ha0'
            have hdo : doA l op = ⟨0, false, ⟨0, 0⟩, (rng l op.key op.to).length, []⟩ := by rw [doA, if_neg hok, if_neg (by omega), if_pos k]; rfl
            simp -implicitDefEqProofs (maxSteps := 1000000) (disch := omega) only [↓xsP, ↓vc_seq, xsQ, xsT, xsR, xsD, ↓reduceIte, reduceCtorEq, eq_self, ne_eq, imp_self, forall_const, Nat.reduceEqDiff, Nat.reduceAdd, Nat.reduceSub, Nat.reduceMul, Nat.reduceLT, Nat.reduceLeDiff, Nat.reduceBEq, Nat.reduceDiv, Nat.reduceMod, Int.reduceToNat, Int.reduceNeg, Int.reduceAdd, Int.reduceSub, Int.reduceMul, Int.reduceEq, Int.reduceNe, Int.reduceLT, Int.reduceLE, Int.reduceGT, Int.reduceGE, h0, h3, h5, h6, h7, h13, h15, k, ans0]
            refine call_of (between_spec l (by omega) op.key op.to _) ?_
            simp -implicitDefEqProofs (maxSteps := 1000000) (disch := omega) only [↓xsP, ↓vc_seq, xsQ, xsT, xsR, xsD, ↓reduceIte, reduceCtorEq, eq_self, ne_eq, imp_self, forall_const, Nat.reduceEqDiff, Nat.reduceAdd, Nat.reduceSub, Nat.reduceMul, Nat.reduceLT, Nat.reduceLeDiff, Nat.reduceBEq, Nat.reduceDiv, Nat.reduceMod, Int.reduceToNat, Int.reduceNeg, Int.reduceAdd, Int.reduceSub, Int.reduceMul, Int.reduceEq, Int.reduceNe, Int.reduceLT, Int.reduceLE, Int.reduceGT, Int.reduceGE, h0, h3, h5, h6, h7, h13, h15, k, ans0]
            refine ⟨_, _, _, _, _, _, _, rfl, .inr ?_, rfl, by rw [hdo]; rfl, fun _ _ => rfl⟩
            rw [hget k (by omega)]
            exact hO
          · have ha0' := ha05 (by omega)
            subst ha0'
            have hdo : doA l op = if l = [] then ans0 else ⟨0, true, l.getD 0 default, 0, []⟩ := by rw [doA, if_neg hok, if_neg (by omega), if_neg (by omega), if_pos k]
            have hget7 := hget k (by omega)
            simp -implicitDefEqProofs (maxSteps := 1000000) (disch := omega) only [↓xsP, ↓vc_seq, xsQ, xsT, xsR, xsD, ↓reduceIte, reduceCtorEq, eq_self, ne_eq, imp_self, forall_const, Nat.reduceEqDiff, Nat.reduceAdd, Nat.reduceSub, Nat.reduceMul, Nat.reduceLT, Nat.reduceLeDiff, Nat.reduceBEq, Nat.reduceDiv, Nat.reduceMod, Int.reduceToNat, Int.reduceNeg, Int.reduceAdd, Int.reduceSub, Int.reduceMul, Int.reduceEq, Int.reduceNe, Int.reduceLT, Int.reduceLE, Int.reduceGT, Int.reduceGE, h0, h3, h5, h6, h7, h13, h15, k, ans0]
            refine condI_prop (fun hp => ?_) (fun hp => ?_)
            · have hl0 : ¬ l = [] := fun e => by subst e; simp at hp
              have hpos : 0 < l.length := by omega
              rw [if_neg hl0] at hdo
              simp -implicitDefEqProofs (maxSteps := 1000000) (disch := omega) only [↓xsP, ↓vc_seq, xsQ, xsT, xsR, xsD, ↓reduceIte, reduceCtorEq, eq_self, ne_eq, imp_self, forall_const, Nat.reduceEqDiff, Nat.reduceAdd, Nat.reduceSub, Nat.reduceMul, Nat.reduceLT, Nat.reduceLeDiff, Nat.reduceBEq, Nat.reduceDiv, Nat.reduceMod, Int.reduceToNat, Int.reduceNeg, Int.reduceAdd, Int.reduceSub, Int.reduceMul, Int.reduceEq, Int.reduceNe, Int.reduceLT, Int.reduceLE, Int.reduceGT, Int.reduceGE, h0, h3, h5, h6, h7, h13, h15, k, ans0]
              exact ⟨_, _, _, _, _, _, _, rfl, .inr (by rw [hget7]; exact hO), rfl, by rw [hdo]; rfl, fun _ _ => rfl⟩
            · have hl0 : l = [] := List.eq_nil_of_length_eq_zero (by omega)
              rw [if_pos hl0] at hdo
              simp -implicitDefEqProofs (maxSteps := 1000000) (disch := omega) only [↓xsP, ↓vc_seq, xsQ, xsT, xsR, xsD, ↓reduceIte, reduceCtorEq, eq_self, ne_eq, imp_self, forall_const, Nat.reduceEqDiff, Nat.reduceAdd, Nat.reduceSub, Nat.reduceMul, Nat.reduceLT, Nat.reduceLeDiff, Nat.reduceBEq, Nat.reduceDiv, Nat.reduceMod, Int.reduceToNat, Int.reduceNeg, Int.reduceAdd, Int.reduceSub, Int.reduceMul, Int.reduceEq, Int.reduceNe, Int.reduceLT, Int.reduceLE, Int.reduceGT, Int.reduceGE, h0, h3, h5, h6, h7, h13, h15, k, ans0]
              exact ⟨_, _, _, _, _, _, _, rfl, .inr (by rw [hget7]; exact hO), rfl, by rw [hdo]; rfl, fun _ _ => rfl⟩
          · have ha0' := ha05 (by omega)
            subst ha0'
            have hdo : doA l op = if l = [] then ans0 else ⟨0, true, l.getD (l.length - 1) default, 0, []⟩ := by rw [doA, if_neg hok, if_neg (by omega), if_neg (by omega), if_neg (by omega), if_pos k]
            have hget7 := hget k (by omega)
            simp -implicitDefEqProofs (maxSteps := 1000000) (disch := omega) only [↓xsP, ↓vc_seq, xsQ, xsT, xsR, xsD, ↓reduceIte, reduceCtorEq, eq_self, ne_eq, imp_self, forall_const, Nat.reduceEqDiff, Nat.reduceAdd, Nat.reduceSub, Nat.reduceMul, Nat.reduceLT, Nat.reduceLeDiff, Nat.reduceBEq, Nat.reduceDiv, Nat.reduceMod, Int.reduceToNat, Int.reduceNeg, Int.reduceAdd, Int.reduceSub, Int.reduceMul, Int.reduceEq, Int.reduceNe, Int.reduceLT, Int.reduceLE, Int.reduceGT, Int.reduceGE, h0, h3, h5, h6, h7, h13, h15, k, ans0]
            refine condI_prop (fun hp => ?_) (fun hp => ?_)
            · have hl0 : ¬ l = [] := fun e => by subst e; simp at hp
              have hpos : 0 < l.length := by omega
              rw [if_neg hl0] at hdo
              simp -implicitDefEqProofs (maxSteps := 1000000) (disch := omega) only [↓xsP, ↓vc_seq, xsQ, xsT, xsR, xsD, ↓reduceIte, reduceCtorEq, eq_self, ne_eq, imp_self, forall_const, Nat.reduceEqDiff, Nat.reduceAdd, Nat.reduceSub, Nat.reduceMul, Nat.reduceLT, Nat.reduceLeDiff, Nat.reduceBEq, Nat.reduceDiv, Nat.reduceMod, Int.reduceToNat, Int.reduceNeg, Int.reduceAdd, Int.reduceSub, Int.reduceMul, Int.reduceEq, Int.reduceNe, Int.reduceLT, Int.reduceLE, Int.reduceGT, Int.reduceGE, h0, h3, h5, h6, h7, h13, h15, k, ans0]
              exact ⟨_, _, _, _, _, _, _, rfl, .inr (by rw [hget7]; exact hO), rfl, by rw [hdo]; rfl, fun _ _ => rfl⟩
            · have hl0 : l = [] := List.eq_nil_of_length_eq_zero (by omega)
              rw [if_pos hl0] at hdo
              simp -implicitDefEqProofs (maxSteps := 1000000) (disch := omega) only [↓xsP, ↓vc_seq, xsQ, xsT, xsR, xsD, ↓reduceIte, reduceCtorEq, eq_self, ne_eq, imp_self, forall_const, Nat.reduceEqDiff, Nat.reduceAdd, Nat.reduceSub, Nat.reduceMul, Nat.reduceLT, Nat.reduceLeDiff, Nat.reduceBEq, Nat.reduceDiv, Nat.reduceMod, Int.reduceToNat, Int.reduceNeg, Int.reduceAdd, Int.reduceSub, Int.reduceMul, Int.reduceEq, Int.reduceNe, Int.reduceLT, Int.reduceLE, Int.reduceGT, Int.reduceGE, h0, h3, h5, h6, h7, h13, h15, k, ans0]
              exact ⟨_, _, _, _, _, _, _, rfl, .inr (by rw [hget7]; exact hO), rfl, by rw [hdo]; rfl, fun _ _ => rfl⟩
        · clear h0 h3 h5 h6 h7
          rintro fr N' ⟨h5, h7, s, a, b, c, d, e, f, h6, hQ, rfl, hw, hf⟩
          simp -implicitDefEqProofs (maxSteps := 1000000) (disch := omega) only [↓xsP, ↓vc_seq, xsQ, xsT, xsR, xsD, ↓reduceIte, reduceCtorEq, eq_self, ne_eq, imp_self, forall_const, Nat.reduceEqDiff, Nat.reduceAdd, Nat.reduceSub, Nat.reduceMul, Nat.reduceLT, Nat.reduceLeDiff, Nat.reduceBEq, Nat.reduceDiv, Nat.reduceMod, Int.reduceToNat, Int.reduceNeg, Int.reduceAdd, Int.reduceSub, Int.reduceMul, Int.reduceEq, Int.reduceNe, Int.reduceLT, Int.reduceLE, Int.reduceGT, Int.reduceGE, h5, h6, h7]
          refine xwrite (fun n0 => [ (3, p5)]) [3] [] [[], [], [], []] (by kernel_rfl) (by kernel_rfl) (by kernel_rfl) (by kernel_rfl) (fun n0 hn0 => ⟨rfl, ?_, ?_⟩)
          · exact TOk_cons (.inl (lt_of_bnd hn0 (hle7 _ _ _ h15))) (TOk_nil _ _)
          · have h5n := lt_of_bnd hn0 (hle7 _ _ _ h15)
            have h7n := lt_of_bnd hn0 (Mem.set_eq _ p7 _)
            simp -implicitDefEqProofs (maxSteps := 1000000) (disch := omega) only [↓xsP, ↓vc_seq, xsQ, xsT, xsR, xsD, ↓reduceIte, reduceCtorEq, eq_self, ne_eq, imp_self, forall_const, Nat.reduceEqDiff, Nat.reduceAdd, Nat.reduceSub, Nat.reduceMul, Nat.reduceLT, Nat.reduceLeDiff, Nat.reduceBEq, Nat.reduceDiv, Nat.reduceMod, Int.reduceToNat, Int.reduceNeg, Int.reduceAdd, Int.reduceSub, Int.reduceMul, Int.reduceEq, Int.reduceNe, Int.reduceLT, Int.reduceLE, Int.reduceGT, Int.reduceGE, h5, h6, h7, h15]
            refine finI_outQ p5 hQ (fun k bk hk hh => ?_) hM5 hMN (hp5 _ (Nat.le_refl _)) hN1 hf ⟨?_, rfl⟩
            · rw [Mem.set_ne _ _ _ _ (Ne.symm hk)]
              exact hle7 _ _ _ hh
            · rw [hw]
              rfl
end Go.X
set_option linter.unusedVariables false
set_option linter.unusedSimpArgs false
set_option maxHeartbeats 20000000
set_option maxRecDepth 100000
namespace Go.X
open Go.Proofs.Try (prog)

/-- A slice of pairs that may be nil. -/
def IsL (x : Lf) (s : List Pr) : Prop := x = .sl (s.map Pr.row) ∨ s = [] ∧ x = .nils
theorem IsL.sl (s : List Pr) : IsL (.sl (s.map Pr.row)) s := .inl rfl
theorem samePairs_is {x y : Lf} {l m : List Pr} (hx : IsL x l) (hy : IsL y m) (hl : l.length ≤ 4611686018427387904) (M : Mem) : XCalls Go.Proofs.Try.prog 24 [.l x, .l y] M fun r M' => r = .l (.bool (bof (l = m))) ∧ M' = M := by
  rcases hx with rfl | ⟨rfl, rfl⟩
  · rcases hy with rfl | ⟨rfl, rfl⟩
    · exact samePairs_spec l m hl M
    · exact XCalls.wk (samePairs_spec l [] hl M)
  · rcases hy with rfl | ⟨rfl, rfl⟩
    · have := XCalls.wk (args := [.l .nils, .l (.sl (m.map Pr.row))]) (samePairs_spec [] m hl M)
      exact this
    · exact XCalls.wk (samePairs_spec [] [] hl M)
theorem withR_is {x : Lf} {l : List Pr} (hx : IsL x l) (hl : l.length ≤ 1000000) (p : Pr) (M : Mem) : XCalls Go.Proofs.Try.prog 20 [.l x, .agg p.row] M fun r M' => r = .l (.sl ((withR l p).map Pr.row)) ∧ M' = M := by
  rcases hx with rfl | ⟨rfl, rfl⟩
  · exact withR_spec l hl p M
  · exact XCalls.wk (withR_spec [] hl p M)
theorem doR_is {x : Lf} {l : List Pr} (hx : IsL x l) (hl : l.length ≤ 1000000) (op : Opn) (M : Mem) : XCalls Go.Proofs.Try.prog 23 [.l x, .agg op.row] M fun r M' => r = .tup [.l (.sl ((doL l op).map Pr.row)), .agg (doA l op).row] ∧ M' = M := by
  rcases hx with rfl | ⟨rfl, rfl⟩
  · exact doR_spec l hl op M
  · exact XCalls.wk (doR_spec [] hl op M)
theorem putL_withR' {l : List Pr} {i : Nat} (hi : i < l.length) : putL (l.take (i + 1)) = withR (putL (l.take i)) (l.getD i default) := by
  have hP := putL_asc (l.take i)
  rw [putL_take l hi, withR_eq hP, doL_upd hP (by simp [mayOpB, putOp]) (by simp [putOp]), oneL, if_pos (.inl rfl)]
  rfl
end Go.X
set_option linter.unusedVariables false
set_option linter.unusedSimpArgs false
set_option maxHeartbeats 20000000
set_option maxRecDepth 100000
namespace Go.X
open Go.Proofs.Try (prog)

noncomputable def goesO (C : List Cl) : List Int → List Pr → Option (List Pr)
  | [], s => some s
  | i :: r, s => if 0 ≤ (clAt C i).fin ∧ doA s (clAt C i).op ≠ (clAt C i).ans then none else goesO C r (doL s (clAt C i).op)
theorem doA_lenO (l : List Pr) (op : Opn) : (doA l op).pairs.length ≤ l.length := by
  have h1 := stays_len (outside op.key op.to) l
  rw [doA]
  split
  · simp
  · split
    · exact h1
    · split
      · simp
      · split
        · split <;> simp [ans0]
        · split
          · split <;> simp [ans0]
          · rw [ansAt_pairs]; simp
theorem goes_spec (b : List Pr) (C : List Cl) (l : List Int) (hb : b.length ≤ 100000) (hC : C.length ≤ 1000) (hl : l.length ≤ 1000) (hin : ∀ x ∈ l, 0 ≤ x ∧ x < C.length) (M : Mem) :
    XCalls Go.Proofs.Try.prog 61 [.l (.sl (b.map Pr.row)), .l (.sl (C.map Cl.row)), .l (.sl (l.map irow))] M fun r M' =>
      match goesO C l (putL b) with
      | none => r = .tup [.l .nilp, .l (.bool false)] ∧ M' = M
      | some s => ∃ id, (∀ j, id ≤ j → M j = none) ∧ r = .tup [.l (.ptr id 0 0), .l (.bool true)] ∧ M' = M.set id (mapB s) := by
  refine xcalls_intro (rs := [.tmp 6, .tmp 7]) Go.Proofs.Try.func61 rfl (by kernel_rfl) rfl rfl (by kernel_rfl) (by simp) ?_
  simp -implicitDefEqProofs (maxSteps := 1000000) (disch := omega) only [↓xsP, ↓vc_seq, xsQ, xsT, xsR, xsD, ↓reduceIte, reduceCtorEq, eq_self, ne_eq, imp_self, forall_const, Nat.reduceEqDiff, Nat.reduceAdd, Nat.reduceSub, Nat.reduceMul, Nat.reduceLT, Nat.reduceLeDiff, Nat.reduceBEq, Nat.reduceDiv, Nat.reduceMod, Int.reduceToNat, Int.reduceNeg, Int.reduceAdd, Int.reduceSub, Int.reduceMul, Int.reduceEq, Int.reduceNe, Int.reduceLT, Int.reduceLE, Int.reduceGT, Int.reduceGE]
  refine callI_of ((new_spec b (by omega) _).mono ?_)
  rintro _ _ ⟨id, hid, rfl, rfl⟩
  have hpl := putL_len b
  simp -implicitDefEqProofs (maxSteps := 1000000) (disch := omega) only [↓xsP, ↓vc_seq, xsQ, xsT, xsR, xsD, ↓reduceIte, reduceCtorEq, eq_self, ne_eq, imp_self, forall_const, Nat.reduceEqDiff, Nat.reduceAdd, Nat.reduceSub, Nat.reduceMul, Nat.reduceLT, Nat.reduceLeDiff, Nat.reduceBEq, Nat.reduceDiv, Nat.reduceMod, Int.reduceToNat, Int.reduceNeg, Int.reduceAdd, Int.reduceSub, Int.reduceMul, Int.reduceEq, Int.reduceNe, Int.reduceLT, Int.reduceLE, Int.reduceGT, Int.reduceGE]
  refine loopI_of (xloop (by kernel_rfl) (fun k fr M' => ∃ (i : Nat) (s : List Pr), i ≤ l.length ∧ k = l.length - i ∧ fr 1 = .l (.sl (C.map Cl.row)) ∧ fr 8 = .l (.ptr id 0 0) ∧ fr 14 = .l (.sl (l.map irow)) ∧ fr 15 = .l (.int .i64 l.length) ∧ fr 16 = .l (.int .i64 i) ∧ M' = M.set id (mapB s) ∧
    goesO C l (putL b) = goesO C (l.drop i) s ∧ s.length ≤ b.length + i) l.length ?_ ?_)
  · exact ⟨0, putL b, Nat.zero_le _, rfl, by simp -implicitDefEqProofs (maxSteps := 1000000) (disch := omega) only [↓xsP, ↓vc_seq, xsQ, xsT, xsR, xsD, ↓reduceIte, reduceCtorEq, eq_self, ne_eq, imp_self, forall_const, Nat.reduceEqDiff, Nat.reduceAdd, Nat.reduceSub, Nat.reduceMul, Nat.reduceLT, Nat.reduceLeDiff, Nat.reduceBEq, Nat.reduceDiv, Nat.reduceMod, Int.reduceToNat, Int.reduceNeg, Int.reduceAdd, Int.reduceSub, Int.reduceMul, Int.reduceEq, Int.reduceNe, Int.reduceLT, Int.reduceLE, Int.reduceGT, Int.reduceGE], by simp -implicitDefEqProofs (maxSteps := 1000000) (disch := omega) only [↓xsP, ↓vc_seq, xsQ, xsT, xsR, xsD, ↓reduceIte, reduceCtorEq, eq_self, ne_eq, imp_self, forall_const, Nat.reduceEqDiff, Nat.reduceAdd, Nat.reduceSub, Nat.reduceMul, Nat.reduceLT, Nat.reduceLeDiff, Nat.reduceBEq, Nat.reduceDiv, Nat.reduceMod, Int.reduceToNat, Int.reduceNeg, Int.reduceAdd, Int.reduceSub, Int.reduceMul, Int.reduceEq, Int.reduceNe, Int.reduceLT, Int.reduceLE, Int.reduceGT, Int.reduceGE], by simp -implicitDefEqProofs (maxSteps := 1000000) (disch := omega) only [↓xsP, ↓vc_seq, xsQ, xsT, xsR, xsD, ↓reduceIte, reduceCtorEq, eq_self, ne_eq, imp_self, forall_const, Nat.reduceEqDiff, Nat.reduceAdd, Nat.reduceSub, Nat.reduceMul, Nat.reduceLT, Nat.reduceLeDiff, Nat.reduceBEq, Nat.reduceDiv, Nat.reduceMod, Int.reduceToNat, Int.reduceNeg, Int.reduceAdd, Int.reduceSub, Int.reduceMul, Int.reduceEq, Int.reduceNe, Int.reduceLT, Int.reduceLE, Int.reduceGT, Int.reduceGE], by simp -implicitDefEqProofs (maxSteps := 1000000) (disch := omega) only [↓xsP, ↓vc_seq, xsQ, xsT, xsR, xsD, ↓reduceIte, reduceCtorEq, eq_self, ne_eq, imp_self, forall_const, Nat.reduceEqDiff, Nat.reduceAdd, Nat.reduceSub, Nat.reduceMul, Nat.reduceLT, Nat.reduceLeDiff, Nat.reduceBEq, Nat.reduceDiv, Nat.reduceMod, Int.reduceToNat, Int.reduceNeg, Int.reduceAdd, Int.reduceSub, Int.reduceMul, Int.reduceEq, Int.reduceNe, Int.reduceLT, Int.reduceLE, Int.reduceGT, Int.reduceGE], by simp -implicitDefEqProofs (maxSteps := 1000000) (disch := omega) only [↓xsP, ↓vc_seq, xsQ, xsT, xsR, xsD, ↓reduceIte, reduceCtorEq, eq_self, ne_eq, imp_self, forall_const, Nat.reduceEqDiff, Nat.reduceAdd, Nat.reduceSub, Nat.reduceMul, Nat.reduceLT, Nat.reduceLeDiff, Nat.reduceBEq, Nat.reduceDiv, Nat.reduceMod, Int.reduceToNat, Int.reduceNeg, Int.reduceAdd, Int.reduceSub, Int.reduceMul, Int.reduceEq, Int.reduceNe, Int.reduceLT, Int.reduceLE, Int.reduceGT, Int.reduceGE, Int.cast_ofNat_Int], rfl, rfl, by omega⟩
  · rintro k fr M' ⟨i, s, hi, rfl, h1, h8, h14, h15, h16, hM', hgo, hsl⟩
    have hMi : M' id = some (mapB s) := by rw [hM']; exact Mem.set_eq _ _ _
    simp -implicitDefEqProofs (maxSteps := 1000000) (disch := omega) only [↓xsP, ↓vc_seq, xsQ, xsT, xsR, xsD, ↓reduceIte, reduceCtorEq, eq_self, ne_eq, imp_self, forall_const, Nat.reduceEqDiff, Nat.reduceAdd, Nat.reduceSub, Nat.reduceMul, Nat.reduceLT, Nat.reduceLeDiff, Nat.reduceBEq, Nat.reduceDiv, Nat.reduceMod, Int.reduceToNat, Int.reduceNeg, Int.reduceAdd, Int.reduceSub, Int.reduceMul, Int.reduceEq, Int.reduceNe, Int.reduceLT, Int.reduceLE, Int.reduceGT, Int.reduceGE, h1, h8, h14, h15, h16]
    refine condI_prop (fun hlt => ?_) (fun hlt => ?_)
    · have hil : i < l.length := by omega
      simp -implicitDefEqProofs (maxSteps := 1000000) (disch := omega) only [↓xsP, ↓vc_seq, xsQ, xsT, xsR, xsD, ↓reduceIte, reduceCtorEq, eq_self, ne_eq, imp_self, forall_const, Nat.reduceEqDiff, Nat.reduceAdd, Nat.reduceSub, Nat.reduceMul, Nat.reduceLT, Nat.reduceLeDiff, Nat.reduceBEq, Nat.reduceDiv, Nat.reduceMod, Int.reduceToNat, Int.reduceNeg, Int.reduceAdd, Int.reduceSub, Int.reduceMul, Int.reduceEq, Int.reduceNe, Int.reduceLT, Int.reduceLE, Int.reduceGT, Int.reduceGE, h1, h8, h14, h15, h16]
      have hyi := hin _ (getD_mem' l default hil)
      have hd : l.drop i = l.getD i default :: l.drop (i + 1) := by
        rw [List.drop_eq_getElem_cons hil, List.getD_eq_getElem?_getD, List.getElem?_eq_getElem hil, Option.getD_some]
      rw [hd, goesO] at hgo
      generalize hy : l.getD i default = y at hyi hgo ⊢
      have hyr : (0 ≤ y ∧ y < (C.length : Int)) = True := eq_true hyi
      simp -implicitDefEqProofs (maxSteps := 1000000) (disch := omega) only [↓xsP, ↓vc_seq, xsQ, xsT, xsR, xsD, ↓reduceIte, reduceCtorEq, eq_self, ne_eq, imp_self, forall_const, Nat.reduceEqDiff, Nat.reduceAdd, Nat.reduceSub, Nat.reduceMul, Nat.reduceLT, Nat.reduceLeDiff, Nat.reduceBEq, Nat.reduceDiv, Nat.reduceMod, Int.reduceToNat, Int.reduceNeg, Int.reduceAdd, Int.reduceSub, Int.reduceMul, Int.reduceEq, Int.reduceNe, Int.reduceLT, Int.reduceLE, Int.reduceGT, Int.reduceGE, h1, h8, h14, h15, h16]
      rw [show C.getD y.toNat default = clAt C y from rfl]
      obtain ⟨c, hc⟩ : ∃ c, clAt C y = c := ⟨_, rfl⟩
      have hcr : C.getD y.toNat default = c := hc
      rw [hc] at hgo ⊢
      refine callI_of ((modelDo_spec s (by omega) c.op id _ hMi).mono ?_)
      rintro _ _ ⟨rfl, rfl⟩
      simp -implicitDefEqProofs (maxSteps := 1000000) (disch := omega) only [↓xsP, ↓vc_seq, xsQ, xsT, xsR, xsD, ↓reduceIte, reduceCtorEq, eq_self, ne_eq, imp_self, forall_const, Nat.reduceEqDiff, Nat.reduceAdd, Nat.reduceSub, Nat.reduceMul, Nat.reduceLT, Nat.reduceLeDiff, Nat.reduceBEq, Nat.reduceDiv, Nat.reduceMod, Int.reduceToNat, Int.reduceNeg, Int.reduceAdd, Int.reduceSub, Int.reduceMul, Int.reduceEq, Int.reduceNe, Int.reduceLT, Int.reduceLE, Int.reduceGT, Int.reduceGE, h1, h8, h14, h15, h16]
      have hM2 : M'.set id (mapB (doL s c.op)) = M.set id (mapB (doL s c.op)) := by rw [hM', Mem.set_set]
      rw [hM2]
      refine newI_intro fun id2 hid2 => ?_
      obtain ⟨h12, hid2'⟩ := bnd_new hid2
      have hdl := doA_lenO s c.op
      have hdd := doL_len s c.op
      simp -implicitDefEqProofs (maxSteps := 1000000) (disch := omega) only [↓xsP, ↓vc_seq, xsQ, xsT, xsR, xsD, ↓reduceIte, reduceCtorEq, eq_self, ne_eq, imp_self, forall_const, Nat.reduceEqDiff, Nat.reduceAdd, Nat.reduceSub, Nat.reduceMul, Nat.reduceLT, Nat.reduceLeDiff, Nat.reduceBEq, Nat.reduceDiv, Nat.reduceMod, Int.reduceToNat, Int.reduceNeg, Int.reduceAdd, Int.reduceSub, Int.reduceMul, Int.reduceEq, Int.reduceNe, Int.reduceLT, Int.reduceLE, Int.reduceGT, Int.reduceGE, h1, h8, h14, h15, h16]
      refine xquiet (by kernel_rfl) (by kernel_rfl) (by kernel_rfl) ?_
      simp -implicitDefEqProofs (maxSteps := 1000000) (disch := omega) only [↓xsP, ↓vc_seq, xsQ, xsT, xsR, xsD, ↓reduceIte, reduceCtorEq, eq_self, ne_eq, imp_self, forall_const, Nat.reduceEqDiff, Nat.reduceAdd, Nat.reduceSub, Nat.reduceMul, Nat.reduceLT, Nat.reduceLeDiff, Nat.reduceBEq, Nat.reduceDiv, Nat.reduceMod, Int.reduceToNat, Int.reduceNeg, Int.reduceAdd, Int.reduceSub, Int.reduceMul, Int.reduceEq, Int.reduceNe, Int.reduceLT, Int.reduceLE, Int.reduceGT, Int.reduceGE, h1, h8, h14, h15, h16, hyr, hcr]
      refine gI_prop (fun hf => ?_) (fun hf => ?_)
      · simp -implicitDefEqProofs (maxSteps := 1000000) (disch := omega) only [↓xsP, ↓vc_seq, xsQ, xsT, xsR, xsD, ↓reduceIte, reduceCtorEq, eq_self, ne_eq, imp_self, forall_const, Nat.reduceEqDiff, Nat.reduceAdd, Nat.reduceSub, Nat.reduceMul, Nat.reduceLT, Nat.reduceLeDiff, Nat.reduceBEq, Nat.reduceDiv, Nat.reduceMod, Int.reduceToNat, Int.reduceNeg, Int.reduceAdd, Int.reduceSub, Int.reduceMul, Int.reduceEq, Int.reduceNe, Int.reduceLT, Int.reduceLE, Int.reduceGT, Int.reduceGE, h1, h8, h14, h15, h16, hyr, hcr, hf]
        refine dcallI_of (sameAns_spec (doA s c.op) c.ans (by omega) _) ?_
        simp -implicitDefEqProofs (maxSteps := 1000000) (disch := omega) only [↓xsP, ↓vc_seq, xsQ, xsT, xsR, xsD, ↓reduceIte, reduceCtorEq, eq_self, ne_eq, imp_self, forall_const, Nat.reduceEqDiff, Nat.reduceAdd, Nat.reduceSub, Nat.reduceMul, Nat.reduceLT, Nat.reduceLeDiff, Nat.reduceBEq, Nat.reduceDiv, Nat.reduceMod, Int.reduceToNat, Int.reduceNeg, Int.reduceAdd, Int.reduceSub, Int.reduceMul, Int.reduceEq, Int.reduceNe, Int.reduceLT, Int.reduceLE, Int.reduceGT, Int.reduceGE, h1, h8, h14, h15, h16, hyr, hcr, hf]
        refine condI_intro (fun hb => ?_) (fun hb => ?_)
        · simp -implicitDefEqProofs (maxSteps := 1000000) (disch := omega) only [↓xsP, ↓vc_seq, xsQ, xsT, xsR, xsD, ↓reduceIte, reduceCtorEq, eq_self, ne_eq, imp_self, forall_const, Nat.reduceEqDiff, Nat.reduceAdd, Nat.reduceSub, Nat.reduceMul, Nat.reduceLT, Nat.reduceLeDiff, Nat.reduceBEq, Nat.reduceDiv, Nat.reduceMod, Int.reduceToNat, Int.reduceNeg, Int.reduceAdd, Int.reduceSub, Int.reduceMul, Int.reduceEq, Int.reduceNe, Int.reduceLT, Int.reduceLE, Int.reduceGT, Int.reduceGE, h1, h8, h14, h15, h16]
          have hne : doA s c.op ≠ c.ans := bof_not.1 (by simpa using hb)
          rw [if_pos ⟨hf, hne⟩] at hgo
          refine fin_ok (le_new (le_new (Mem.le_refl _) hid) hid2') ?_
          rw [hgo]
          exact ⟨rfl, rfl⟩
        · simp -implicitDefEqProofs (maxSteps := 1000000) (disch := omega) only [↓xsP, ↓vc_seq, xsQ, xsT, xsR, xsD, ↓reduceIte, reduceCtorEq, eq_self, ne_eq, imp_self, forall_const, Nat.reduceEqDiff, Nat.reduceAdd, Nat.reduceSub, Nat.reduceMul, Nat.reduceLT, Nat.reduceLeDiff, Nat.reduceBEq, Nat.reduceDiv, Nat.reduceMod, Int.reduceToNat, Int.reduceNeg, Int.reduceAdd, Int.reduceSub, Int.reduceMul, Int.reduceEq, Int.reduceNe, Int.reduceLT, Int.reduceLE, Int.reduceGT, Int.reduceGE, h1, h8, h14, h15, h16]
          have heq : doA s c.op = c.ans := bof_iff.1 (by simpa using hb)
          rw [if_neg (fun h => h.2 heq)] at hgo
          exact ⟨l.length - (i + 1), M.set id (mapB (doL s c.op)), by omega, le_new (Mem.le_refl _) hid2, i + 1, doL s c.op, by omega, rfl, by simp, rfl, hgo, by omega⟩
      · simp -implicitDefEqProofs (maxSteps := 1000000) (disch := omega) only [↓xsP, ↓vc_seq, xsQ, xsT, xsR, xsD, ↓reduceIte, reduceCtorEq, eq_self, ne_eq, imp_self, forall_const, Nat.reduceEqDiff, Nat.reduceAdd, Nat.reduceSub, Nat.reduceMul, Nat.reduceLT, Nat.reduceLeDiff, Nat.reduceBEq, Nat.reduceDiv, Nat.reduceMod, Int.reduceToNat, Int.reduceNeg, Int.reduceAdd, Int.reduceSub, Int.reduceMul, Int.reduceEq, Int.reduceNe, Int.reduceLT, Int.reduceLE, Int.reduceGT, Int.reduceGE, h1, h8, h14, h15, h16, hyr, hcr, hf]
        rw [if_neg (fun h => hf h.1)] at hgo
        exact ⟨l.length - (i + 1), M.set id (mapB (doL s c.op)), by omega, le_new (Mem.le_refl _) hid2, i + 1, doL s c.op, by omega, rfl, by simp, rfl, hgo, by omega⟩
    · simp -implicitDefEqProofs (maxSteps := 1000000) (disch := omega) only [↓xsP, ↓vc_seq, xsQ, xsT, xsR, xsD, ↓reduceIte, reduceCtorEq, eq_self, ne_eq, imp_self, forall_const, Nat.reduceEqDiff, Nat.reduceAdd, Nat.reduceSub, Nat.reduceMul, Nat.reduceLT, Nat.reduceLeDiff, Nat.reduceBEq, Nat.reduceDiv, Nat.reduceMod, Int.reduceToNat, Int.reduceNeg, Int.reduceAdd, Int.reduceSub, Int.reduceMul, Int.reduceEq, Int.reduceNe, Int.reduceLT, Int.reduceLE, Int.reduceGT, Int.reduceGE, h1, h8, h14, h15, h16]
      have hil : i = l.length := by omega
      rw [hil, List.drop_length, goesO] at hgo
      refine fin_ok (Mem.le_refl _) ?_
      rw [hgo]
      exact ⟨id, hid, rfl, hM'⟩

noncomputable def rightB (b : List Pr) (h : List Evt) (l : List Int) : Bool := bof (Rises b) && (okP h && (namedB (callsP h) l && timelyB (callsP h) l))
noncomputable def rightO (b : List Pr) (h : List Evt) (l : List Int) : Option (List Pr) := if rightB b h l = true then goesO (callsP h) l (putL b) else none
theorem named_in {C : List Cl} {l : List Int} (h : namedB C l = true) : ∀ x ∈ l, 0 ≤ x ∧ x < C.length := (bof_iff.1 h).1
theorem right_spec (b : List Pr) (h : List Evt) (l : List Int) (hb : b.length ≤ 100000) (hs : Small h) (hh : h.length ≤ 1000) (hl : l.length ≤ 1000) (M : Mem) :
    XCalls Go.Proofs.Try.prog 50 [.l (.sl (b.map Pr.row)), .l (.sl (h.map Evt.row)), .l (.sl (l.map irow))] M fun r M' =>
      match rightO b h l with
      | none => r = .tup [.l .nilp, .l (.bool false)] ∧ M' = M
      | some s => ∃ id, (∀ j, id ≤ j → M j = none) ∧ r = .tup [.l (.ptr id 0 0), .l (.bool true)] ∧ M' = M.set id (mapB s) := by
  refine xcalls_intro (rs := [.tmp 6, .tmp 7]) Go.Proofs.Try.func50 rfl (by kernel_rfl) rfl rfl (by kernel_rfl) (by simp) ?_
  have hcl := callsP_len h
  have hbad : rightB b h l = false → @finI prog (.tup [.l .nilp, .l (.bool false)]) M ⟨fun r M' =>
      match rightO b h l with
      | none => r = .tup [.l .nilp, .l (.bool false)] ∧ M' = M
      | some s => ∃ id, (∀ j, id ≤ j → M j = none) ∧ r = .tup [.l (.ptr id 0 0), .l (.bool true)] ∧ M' = M.set id (mapB s)⟩ := fun hr => by
    refine fin_ok (Mem.le_refl _) ?_
    rw [rightO, hr]
    exact ⟨rfl, rfl⟩
  simp -implicitDefEqProofs (maxSteps := 1000000) (disch := omega) only [↓xsP, ↓vc_seq, xsQ, xsT, xsR, xsD, ↓reduceIte, reduceCtorEq, eq_self, ne_eq, imp_self, forall_const, Nat.reduceEqDiff, Nat.reduceAdd, Nat.reduceSub, Nat.reduceMul, Nat.reduceLT, Nat.reduceLeDiff, Nat.reduceBEq, Nat.reduceDiv, Nat.reduceMod, Int.reduceToNat, Int.reduceNeg, Int.reduceAdd, Int.reduceSub, Int.reduceMul, Int.reduceEq, Int.reduceNe, Int.reduceLT, Int.reduceLE, Int.reduceGT, Int.reduceGE]
  refine call_of (may_spec b (by omega) _) ?_
  cases h1 : bof (Rises b) with
  | false =>
    simp -implicitDefEqProofs (maxSteps := 1000000) (disch := omega) only [↓xsP, ↓vc_seq, xsQ, xsT, xsR, xsD, ↓reduceIte, reduceCtorEq, eq_self, ne_eq, imp_self, forall_const, Nat.reduceEqDiff, Nat.reduceAdd, Nat.reduceSub, Nat.reduceMul, Nat.reduceLT, Nat.reduceLeDiff, Nat.reduceBEq, Nat.reduceDiv, Nat.reduceMod, Int.reduceToNat, Int.reduceNeg, Int.reduceAdd, Int.reduceSub, Int.reduceMul, Int.reduceEq, Int.reduceNe, Int.reduceLT, Int.reduceLE, Int.reduceGT, Int.reduceGE]
    exact hbad (by rw [rightB, h1]; rfl)
  | true =>
    simp -implicitDefEqProofs (maxSteps := 1000000) (disch := omega) only [↓xsP, ↓vc_seq, xsQ, xsT, xsR, xsD, ↓reduceIte, reduceCtorEq, eq_self, ne_eq, imp_self, forall_const, Nat.reduceEqDiff, Nat.reduceAdd, Nat.reduceSub, Nat.reduceMul, Nat.reduceLT, Nat.reduceLeDiff, Nat.reduceBEq, Nat.reduceDiv, Nat.reduceMod, Int.reduceToNat, Int.reduceNeg, Int.reduceAdd, Int.reduceSub, Int.reduceMul, Int.reduceEq, Int.reduceNe, Int.reduceLT, Int.reduceLE, Int.reduceGT, Int.reduceGE]
    refine call_of (pmay_spec h hs _) ?_
    cases h2 : okP h with
    | false =>
      simp -implicitDefEqProofs (maxSteps := 1000000) (disch := omega) only [↓xsP, ↓vc_seq, xsQ, xsT, xsR, xsD, ↓reduceIte, reduceCtorEq, eq_self, ne_eq, imp_self, forall_const, Nat.reduceEqDiff, Nat.reduceAdd, Nat.reduceSub, Nat.reduceMul, Nat.reduceLT, Nat.reduceLeDiff, Nat.reduceBEq, Nat.reduceDiv, Nat.reduceMod, Int.reduceToNat, Int.reduceNeg, Int.reduceAdd, Int.reduceSub, Int.reduceMul, Int.reduceEq, Int.reduceNe, Int.reduceLT, Int.reduceLE, Int.reduceGT, Int.reduceGE]
      exact hbad (by rw [rightB, h1, h2]; rfl)
    | true =>
      simp -implicitDefEqProofs (maxSteps := 1000000) (disch := omega) only [↓xsP, ↓vc_seq, xsQ, xsT, xsR, xsD, ↓reduceIte, reduceCtorEq, eq_self, ne_eq, imp_self, forall_const, Nat.reduceEqDiff, Nat.reduceAdd, Nat.reduceSub, Nat.reduceMul, Nat.reduceLT, Nat.reduceLeDiff, Nat.reduceBEq, Nat.reduceDiv, Nat.reduceMod, Int.reduceToNat, Int.reduceNeg, Int.reduceAdd, Int.reduceSub, Int.reduceMul, Int.reduceEq, Int.reduceNe, Int.reduceLT, Int.reduceLE, Int.reduceGT, Int.reduceGE]
      refine call_of (pcalls_spec h hs _) ?_
      simp -implicitDefEqProofs (maxSteps := 1000000) (disch := omega) only [↓xsP, ↓vc_seq, xsQ, xsT, xsR, xsD, ↓reduceIte, reduceCtorEq, eq_self, ne_eq, imp_self, forall_const, Nat.reduceEqDiff, Nat.reduceAdd, Nat.reduceSub, Nat.reduceMul, Nat.reduceLT, Nat.reduceLeDiff, Nat.reduceBEq, Nat.reduceDiv, Nat.reduceMod, Int.reduceToNat, Int.reduceNeg, Int.reduceAdd, Int.reduceSub, Int.reduceMul, Int.reduceEq, Int.reduceNe, Int.reduceLT, Int.reduceLE, Int.reduceGT, Int.reduceGE]
      refine callI_of ((named_spec (callsP h) l (by omega) hl _).mono ?_)
      rintro _ M ⟨⟨s, rfl⟩, rfl⟩
      cases h3 : namedB (callsP h) l with
      | false =>
        simp -implicitDefEqProofs (maxSteps := 1000000) (disch := omega) only [↓xsP, ↓vc_seq, xsQ, xsT, xsR, xsD, ↓reduceIte, reduceCtorEq, eq_self, ne_eq, imp_self, forall_const, Nat.reduceEqDiff, Nat.reduceAdd, Nat.reduceSub, Nat.reduceMul, Nat.reduceLT, Nat.reduceLeDiff, Nat.reduceBEq, Nat.reduceDiv, Nat.reduceMod, Int.reduceToNat, Int.reduceNeg, Int.reduceAdd, Int.reduceSub, Int.reduceMul, Int.reduceEq, Int.reduceNe, Int.reduceLT, Int.reduceLE, Int.reduceGT, Int.reduceGE]
        exact hbad (by rw [rightB, h1, h2, h3]; rfl)
      | true =>
        simp -implicitDefEqProofs (maxSteps := 1000000) (disch := omega) only [↓xsP, ↓vc_seq, xsQ, xsT, xsR, xsD, ↓reduceIte, reduceCtorEq, eq_self, ne_eq, imp_self, forall_const, Nat.reduceEqDiff, Nat.reduceAdd, Nat.reduceSub, Nat.reduceMul, Nat.reduceLT, Nat.reduceLeDiff, Nat.reduceBEq, Nat.reduceDiv, Nat.reduceMod, Int.reduceToNat, Int.reduceNeg, Int.reduceAdd, Int.reduceSub, Int.reduceMul, Int.reduceEq, Int.reduceNe, Int.reduceLT, Int.reduceLE, Int.reduceGT, Int.reduceGE]
        refine call_of (timely_spec (callsP h) l (by omega) hl (named_in h3) _) ?_
        cases h4 : timelyB (callsP h) l with
        | false =>
          simp -implicitDefEqProofs (maxSteps := 1000000) (disch := omega) only [↓xsP, ↓vc_seq, xsQ, xsT, xsR, xsD, ↓reduceIte, reduceCtorEq, eq_self, ne_eq, imp_self, forall_const, Nat.reduceEqDiff, Nat.reduceAdd, Nat.reduceSub, Nat.reduceMul, Nat.reduceLT, Nat.reduceLeDiff, Nat.reduceBEq, Nat.reduceDiv, Nat.reduceMod, Int.reduceToNat, Int.reduceNeg, Int.reduceAdd, Int.reduceSub, Int.reduceMul, Int.reduceEq, Int.reduceNe, Int.reduceLT, Int.reduceLE, Int.reduceGT, Int.reduceGE]
          exact hbad (by rw [rightB, h1, h2, h3, h4]; rfl)
        | true =>
          simp -implicitDefEqProofs (maxSteps := 1000000) (disch := omega) only [↓xsP, ↓vc_seq, xsQ, xsT, xsR, xsD, ↓reduceIte, reduceCtorEq, eq_self, ne_eq, imp_self, forall_const, Nat.reduceEqDiff, Nat.reduceAdd, Nat.reduceSub, Nat.reduceMul, Nat.reduceLT, Nat.reduceLeDiff, Nat.reduceBEq, Nat.reduceDiv, Nat.reduceMod, Int.reduceToNat, Int.reduceNeg, Int.reduceAdd, Int.reduceSub, Int.reduceMul, Int.reduceEq, Int.reduceNe, Int.reduceLT, Int.reduceLE, Int.reduceGT, Int.reduceGE]
          have hr : rightO b h l = goesO (callsP h) l (putL b) := by rw [rightO, if_pos (by rw [rightB, h1, h2, h3, h4]; rfl)]
          refine callI_of ((goes_spec b (callsP h) l hb (by omega) hl (named_in h3) _).mono ?_)
          intro r M' hk
          cases hg : goesO (callsP h) l (putL b) with
          | none =>
            rw [hg] at hk
            obtain ⟨rfl, rfl⟩ := hk
            simp -implicitDefEqProofs (maxSteps := 1000000) (disch := omega) only [↓xsP, ↓vc_seq, xsQ, xsT, xsR, xsD, ↓reduceIte, reduceCtorEq, eq_self, ne_eq, imp_self, forall_const, Nat.reduceEqDiff, Nat.reduceAdd, Nat.reduceSub, Nat.reduceMul, Nat.reduceLT, Nat.reduceLeDiff, Nat.reduceBEq, Nat.reduceDiv, Nat.reduceMod, Int.reduceToNat, Int.reduceNeg, Int.reduceAdd, Int.reduceSub, Int.reduceMul, Int.reduceEq, Int.reduceNe, Int.reduceLT, Int.reduceLE, Int.reduceGT, Int.reduceGE]
            refine fin_ok (Mem.le_refl _) ?_
            rw [hr, hg]
            exact ⟨rfl, rfl⟩
          | some s =>
            rw [hg] at hk
            obtain ⟨id, hid, rfl, rfl⟩ := hk
            simp -implicitDefEqProofs (maxSteps := 1000000) (disch := omega) only [↓xsP, ↓vc_seq, xsQ, xsT, xsR, xsD, ↓reduceIte, reduceCtorEq, eq_self, ne_eq, imp_self, forall_const, Nat.reduceEqDiff, Nat.reduceAdd, Nat.reduceSub, Nat.reduceMul, Nat.reduceLT, Nat.reduceLeDiff, Nat.reduceBEq, Nat.reduceDiv, Nat.reduceMod, Int.reduceToNat, Int.reduceNeg, Int.reduceAdd, Int.reduceSub, Int.reduceMul, Int.reduceEq, Int.reduceNe, Int.reduceLT, Int.reduceLE, Int.reduceGT, Int.reduceGE]
            refine fin_ok (Mem.le_refl _) ?_
            rw [hr, hg]
            exact ⟨id, hid, rfl, rfl⟩
theorem oright_spec (b : List Pr) (h : List Evt) (l : List Int) (hb : b.length ≤ 100000) (hs : Small h) (hh : h.length ≤ 1000) (hl : l.length ≤ 1000) (M : Mem) :
    XCalls Go.Proofs.Try.prog 29 [.l (.sl (b.map Pr.row)), .l (.sl (h.map Evt.row)), .l (.sl (l.map irow))] M fun r M' => r = .l (.bool (rightO b h l).isSome) ∧ M' = M := by
  refine xcalls_intro (rs := [.tmp 6]) Go.Proofs.Try.func29 rfl (by kernel_rfl) rfl rfl (by kernel_rfl) (by simp) ?_
  simp -implicitDefEqProofs (maxSteps := 1000000) (disch := omega) only [↓xsP, ↓vc_seq, xsQ, xsT, xsR, xsD, ↓reduceIte, reduceCtorEq, eq_self, ne_eq, imp_self, forall_const, Nat.reduceEqDiff, Nat.reduceAdd, Nat.reduceSub, Nat.reduceMul, Nat.reduceLT, Nat.reduceLeDiff, Nat.reduceBEq, Nat.reduceDiv, Nat.reduceMod, Int.reduceToNat, Int.reduceNeg, Int.reduceAdd, Int.reduceSub, Int.reduceMul, Int.reduceEq, Int.reduceNe, Int.reduceLT, Int.reduceLE, Int.reduceGT, Int.reduceGE]
  refine callI_of ((right_spec b h l hb hs hh hl _).mono ?_)
  intro r M' hk
  cases hg : rightO b h l with
  | none =>
    rw [hg] at hk
    obtain ⟨rfl, rfl⟩ := hk
    simp -implicitDefEqProofs (maxSteps := 1000000) (disch := omega) only [↓xsP, ↓vc_seq, xsQ, xsT, xsR, xsD, ↓reduceIte, reduceCtorEq, eq_self, ne_eq, imp_self, forall_const, Nat.reduceEqDiff, Nat.reduceAdd, Nat.reduceSub, Nat.reduceMul, Nat.reduceLT, Nat.reduceLeDiff, Nat.reduceBEq, Nat.reduceDiv, Nat.reduceMod, Int.reduceToNat, Int.reduceNeg, Int.reduceAdd, Int.reduceSub, Int.reduceMul, Int.reduceEq, Int.reduceNe, Int.reduceLT, Int.reduceLE, Int.reduceGT, Int.reduceGE]
    exact fin_ok (Mem.le_refl _) ⟨rfl, rfl⟩
  | some s =>
    rw [hg] at hk
    obtain ⟨id, hid, rfl, rfl⟩ := hk
    simp -implicitDefEqProofs (maxSteps := 1000000) (disch := omega) only [↓xsP, ↓vc_seq, xsQ, xsT, xsR, xsD, ↓reduceIte, reduceCtorEq, eq_self, ne_eq, imp_self, forall_const, Nat.reduceEqDiff, Nat.reduceAdd, Nat.reduceSub, Nat.reduceMul, Nat.reduceLT, Nat.reduceLeDiff, Nat.reduceBEq, Nat.reduceDiv, Nat.reduceMod, Int.reduceToNat, Int.reduceNeg, Int.reduceAdd, Int.reduceSub, Int.reduceMul, Int.reduceEq, Int.reduceNe, Int.reduceLT, Int.reduceLE, Int.reduceGT, Int.reduceGE]
    exact fin_ok (le_new (Mem.le_refl _) hid) ⟨rfl, rfl⟩
end Go.X
set_option linter.unusedVariables false
set_option linter.unusedSimpArgs false
set_option maxHeartbeats 20000000
set_option maxRecDepth 100000
namespace Go.X
open Go.Proofs.Try (prog)

theorem lastV_noneO {k : Int} : ∀ {l : List Pr} {o : Option Int}, (∀ p ∈ l, p.key ≠ k) → lastV k o l = o
  | [], o, _ => rfl
  | p :: r, o, h => by
    rw [lastV, List.foldl_cons, if_neg (fun e => h p (by simp) e.symm)]
    exact lastV_noneO (l := r) fun q hq => h q (by simp [hq])
theorem lastV_ascO {k : Int} : ∀ {l : List Pr} {o : Option Int}, Asc l → lastV k o l = (match look l k with | some v => some v | none => o)
  | [], o, _ => rfl
  | p :: r, o, h => by
    have h2 := List.pairwise_cons.1 h
    rw [look]
    by_cases e : p.key = k
    · rw [if_pos e, lastV, List.foldl_cons, if_pos e.symm]
      refine lastV_noneO (l := r) fun q hq => ?_
      have := h2.1 q hq
      omega
    · rw [if_neg e, lastV, List.foldl_cons, if_neg (fun h => e h.symm)]
      exact lastV_ascO (l := r) h2.2
theorem putL_idO {l : List Pr} (h : Asc l) : putL l = l := look_ext (putL_asc l) h fun k => by
  rw [putL_look, lastV_ascO h]
  cases look l k <;> rfl

/-- A slice of pairs that may be nil, or stand in a block that is kept. -/
def IsK (M : Mem) (x : Lf) (l : List Pr) : Prop := IsL x l ∨ ∃ id keep, M id = some (.cells 26 (l.map Pr.row) keep) ∧ l.length ≤ keep ∧ x = .ms id 0 l.length
theorem IsK.sl (M : Mem) (l : List Pr) : IsK M (.sl (l.map Pr.row)) l := .inl (.inl rfl)
theorem IsK.le {M N : Mem} {x : Lf} {l : List Pr} (h : IsK M x l) (hle : M.le N) : IsK N x l := by
  rcases h with h | ⟨id, keep, h1, h2, h3⟩
  · exact .inl h
  · exact .inr ⟨id, keep, hle _ _ h1, h2, h3⟩
end Go.X
set_option linter.unusedVariables false
set_option linter.unusedSimpArgs false
set_option maxRecDepth 100000
namespace Go.X

/-- What a leaf reads as: a slice of these rows that never changes. -/
def Rd (M : Mem) (x : Lf) (r : List (List Lf)) : Prop :=
  x = .sl r ∨ (r = [] ∧ x = .nils) ∨ ∃ id off n T rows keep, M id = some (.cells T rows keep) ∧ rows.length ≤ keep ∧ off + n ≤ rows.length ∧ r = (rows.drop off).take n ∧ x = .ms id off n
theorem Rd.sl (M : Mem) (r : List (List Lf)) : Rd M (.sl r) r := .inl rfl
theorem Rd.nils (M : Mem) : Rd M .nils [] := .inr (.inl ⟨rfl, rfl⟩)
theorem Rd.ms {M : Mem} {id T keep n : Nat} {rows : List (List Lf)} (h : M id = some (.cells T rows keep)) (hk : rows.length ≤ keep) (hn : n = rows.length) : Rd M (.ms id 0 n) rows :=
  .inr (.inr ⟨id, 0, n, T, rows, keep, h, hk, by omega, by rw [List.drop_zero, List.take_of_length_le (by omega)], rfl⟩)
theorem Rd.le {M N : Mem} {x : Lf} {r : List (List Lf)} (h : Rd M x r) (hle : M.le N) : Rd N x r := by
  rcases h with h | h | ⟨id, off, n, T, rows, keep, h1, h2, h3, h4, h5⟩
  · exact .inl h
  · exact .inr (.inl h)
  · exact .inr (.inr ⟨id, off, n, T, rows, keep, hle _ _ h1, h2, h3, h4, h5⟩)
theorem Rd.frz {M : Mem} {x : Lf} {r : List (List Lf)} (h : Rd M x r) {id T keep : Nat} {rows : List (List Lf)} (hM : M id = some (.cells T rows keep)) : Rd M (frzL id rows x) r := by
  rcases h with rfl | ⟨rfl, rfl⟩ | ⟨id', off, n, T', rows', keep', h1, h2, h3, rfl, rfl⟩
  · exact .inl rfl
  · exact .inr (.inl ⟨rfl, rfl⟩)
  · simp only [frzL]
    split
    · rename_i e
      obtain ⟨rfl, -⟩ := e
      rw [hM] at h1
      cases h1
      exact .inl rfl
    · exact .inr (.inr ⟨id', off, n, T', rows', keep', h1, h2, h3, rfl, rfl⟩)
theorem Rd.wk {M : Mem} {x : Lf} {r : List (List Lf)} (h : Rd M x r) : Rd M (wkL x) r := by
  rcases h with rfl | ⟨rfl, rfl⟩ | ⟨id', off, n, T', rows', keep', h1, h2, h3, rfl, rfl⟩
  · exact .inl rfl
  · exact .inl rfl
  · exact .inr (.inr ⟨id', off, n, T', rows', keep', h1, h2, h3, rfl, rfl⟩)
/-- A value that neither a freeze nor a weakening changes. -/
def Fast (a : AV) : Prop := wkA a = a ∧ ∀ id rows, frzA id rows a = a
theorem Fast.int (k : IntKind) (n : Int) : Fast (.l (.int k n)) := ⟨rfl, fun _ _ => rfl⟩
theorem Fast.bool (b : Bool) : Fast (.l (.bool b)) := ⟨rfl, fun _ _ => rfl⟩
theorem Fast.sl (r : List (List Lf)) : Fast (.l (.sl r)) := ⟨rfl, fun _ _ => rfl⟩
theorem Fast.ptr (i r c : Nat) : Fast (.l (.ptr i r c)) := ⟨rfl, fun _ _ => rfl⟩
theorem Fast.opn (o : Opn) : Fast (.agg o.row) := ⟨by simp [Opn.row, wkA, wkL], fun _ _ => by simp [Opn.row, frzA, frz1, frzL]⟩
theorem Fast.ans (o : Ans) : Fast (.agg o.row) := ⟨by simp [Ans.row, wkA, wkL], fun _ _ => by simp [Ans.row, frzA, frz1, frzL]⟩
def RdA (M : Mem) (a b : AV) : Prop := (a = b ∧ Fast b) ∨ ∃ x r, a = .l x ∧ b = .l (.sl r) ∧ Rd M x r
inductive RdAs (M : Mem) : List AV → List AV → Prop
  | nil : RdAs M [] []
  | cons {a b : AV} {l m : List AV} : RdA M a b → RdAs M l m → RdAs M (a :: l) (b :: m)
theorem RdA.frz {M : Mem} {a b : AV} (h : RdA M a b) {id T keep : Nat} {rows : List (List Lf)} (hM : M id = some (.cells T rows keep)) : RdA M (frzA id rows a) b := by
  rcases h with ⟨rfl, hf⟩ | ⟨x, r, rfl, rfl, h⟩
  · exact .inl ⟨hf.2 _ _, hf⟩
  · exact .inr ⟨_, r, rfl, rfl, h.frz hM⟩
theorem RdA.wk {M : Mem} {a b : AV} (h : RdA M a b) : RdA M (wkA a) b := by
  rcases h with ⟨rfl, hf⟩ | ⟨x, r, rfl, rfl, h⟩
  · exact .inl ⟨hf.1, hf⟩
  · exact .inr ⟨_, r, rfl, rfl, h.wk⟩
theorem RdAs.frz {M : Mem} {id T keep : Nat} {rows : List (List Lf)} (hM : M id = some (.cells T rows keep)) : ∀ {l m : List AV}, RdAs M l m → RdAs M (l.map (frzA id rows)) m
  | _, _, .nil => .nil
  | _, _, .cons h t => .cons (h.frz hM) (t.frz hM)
theorem RdAs.wk {M : Mem} : ∀ {l m : List AV}, RdAs M l m → RdAs M (l.map wkA) m
  | _, _, .nil => .nil
  | _, _, .cons h t => .cons h.wk t.wk
theorem XCalls.rds {P : Program} {f : FuncId} {M : Mem} {K : AV → Mem → Prop} : ∀ {m l done : List AV}, RdAs M l m → (∀ a ∈ done, Fast a) → XCalls P f (done ++ m) M K → XCalls P f (done ++ l) M K
  | [], l, done, h, hd, hx => by cases h; exact hx
  | b :: m, _, done, .cons (a := a) (l := l) h t, hd, hx => by
    have fin : ∀ {l' : List AV}, Fast b → RdAs M l' m → XCalls P f (done ++ b :: l') M K := fun {l'} hb ht => by
      have := XCalls.rds (done := done ++ [b]) ht (fun a ha => by rcases List.mem_append.1 ha with ha | ha; exact hd _ ha; rw [List.mem_singleton.1 ha]; exact hb) (by rw [List.append_assoc]; exact hx)
      rwa [List.append_assoc] at this
    have hdw : done.map wkA = done := by
      conv => rhs; rw [← List.map_id done]
      exact List.map_congr_left fun a ha => (hd a ha).1
    have hdf : ∀ id rows, done.map (frzA id rows) = done := fun id rows => by
      conv => rhs; rw [← List.map_id done]
      exact List.map_congr_left fun a ha => (hd a ha).2 id rows
    rcases h with ⟨rfl, hf⟩ | ⟨x, r, rfl, rfl, rfl | ⟨rfl, rfl⟩ | ⟨id, off, n, T, rows, keep, h1, h2, h3, rfl, rfl⟩⟩
    · exact fin hf t
    · exact fin (Fast.sl _) t
    · refine XCalls.wk ?_
      rw [List.map_append, hdw]
      exact fin (Fast.sl _) t.wk
    · refine XCalls.frz0 id h1 h2 ?_
      rw [List.map_append, hdf]
      have e : frzA id rows (.l (.ms id off n)) = .l (.sl ((rows.drop off).take n)) := by simp [frzA, frz1, frzL, h3]
      rw [List.map_cons, e]
      exact fin (Fast.sl _) (t.frz h1)
theorem XCalls.rd {P : Program} {f : FuncId} {M : Mem} {K : AV → Mem → Prop} {m l : List AV} (h : RdAs M l m) (hx : XCalls P f m M K) : XCalls P f l M K :=
  XCalls.rds (done := []) h (by simp) hx
end Go.X
set_option linter.unusedVariables false
set_option linter.unusedSimpArgs false
set_option maxHeartbeats 20000000
set_option maxRecDepth 100000
namespace Go.X
open Go.Proofs.Try (prog)

def hist0 : List Evt := [⟨1, false, ⟨4, 0, 0, 0⟩, ans0⟩, ⟨0, false, ⟨7, 0, 0, 0⟩, ans0⟩, ⟨1, true, ⟨4, 0, 0, 0⟩, ans0⟩]
def c0 : Cl := ⟨1, 0, 2, ⟨4, 0, 0, 0⟩, ans0⟩
def c1 : Cl := ⟨0, 1, -1, ⟨7, 0, 0, 0⟩, ans0⟩
end Go.X
set_option linter.unusedVariables false
set_option linter.unusedSimpArgs false
set_option maxRecDepth 100000
namespace Go.X

theorem timely_pw (C : List Cl) (l : List Int) : timelyB C l = bof (l.Pairwise fun i j => ¬ befP (clAt C j) (clAt C i)) := by
  rw [timelyB]
  refine bof_congr ?_
  rw [List.pairwise_iff_getElem]
  constructor
  · intro h i j hi hj hij
    have := h i j hij hj
    simpa [List.getD_eq_getElem?_getD, hi, hj] using this
  · intro h a b hab hb
    have := h a b (by omega) hb hab
    simpa [List.getD_eq_getElem?_getD, show a < l.length by omega, hb] using this
end Go.X
set_option linter.unusedVariables false
set_option linter.unusedSimpArgs false
set_option maxRecDepth 100000
namespace Go.X

theorem clAt_app {C : List Cl} {c : Cl} {x : Int} (h0 : 0 ≤ x) (hx : x < C.length) : clAt (C ++ [c]) x = clAt C x := by
  rw [clAt, clAt, gd_app, if_pos (by omega)]
theorem timely_more {C : List Cl} {c : Cl} {l : List Int} (hin : ∀ x ∈ l, 0 ≤ x ∧ x < C.length) (h : timelyB C l = true) : timelyB (C ++ [c]) l = true := by
  rw [timely_pw, bof_iff] at h ⊢
  exact h.imp_of_mem fun ha hb hab => by
    have h1 := hin _ ha
    have h2 := hin _ hb
    rw [clAt_app h1.1 h1.2, clAt_app h2.1 h2.2]
    exact hab
theorem right_mk {b : List Pr} {h : List Evt} {l : List Int} (h1 : bof (Rises b) = true) (h2 : okP h = true) (h3 : namedB (callsP h) l = true) (h4 : timelyB (callsP h) l = true) : rightO b h l = goesO (callsP h) l (putL b) := by
  rw [rightO, if_pos (by rw [rightB, h1, h2, h3, h4]; rfl)]
end Go.X
set_option linter.unusedVariables false
set_option linter.unusedSimpArgs false
set_option maxHeartbeats 20000000
set_option maxRecDepth 100000
namespace Go.X
open Go.Proofs.Try (prog)

structure Wk where
  busy : Bool
  op : Opn
  call : Int
  took : Bool
  ans : Ans
  deriving DecidableEq, Inhabited
def Wk.row (w : Wk) : List Lf := [.bool w.busy, .int .i64 w.op.kind, .int .i64 w.op.key, .int .i64 w.op.to, .int .i64 w.op.val, .int .i64 w.call, .bool w.took, .int .i64 w.ans.err, .bool w.ans.ok, .int .i64 w.ans.pair.key, .int .i64 w.ans.pair.val, .int .i64 w.ans.n, if w.took = true then .sl (w.ans.pairs.map Pr.row) else .nils]
def wk0 : Wk := ⟨false, ⟨0, 0, 0, 0⟩, 0, false, ans0⟩
structure Wit where
  s : List Pr
  ws : List Wk
  calls : Nat
  ord : List Int
def wRow (mid : Nat) (o : Lf) (W : Wit) : List Lf := .ptr mid 0 0 :: ((W.ws.map Wk.row).flatten ++ [.int .i64 W.calls, o])
def wB (mid : Nat) (o : Lf) (W : Wit) : Blk := .cells 83 [wRow mid o W] 0
/-- A witness stands in the memory, beside what the caller keeps. -/
structure WIn (B M : Mem) (id mid : Nat) (o : Lf) (W : Wit) : Prop where
  le : B.le M
  nid : B id = none
  nmid : B mid = none
  ne : mid ≠ id
  six : W.ws.length = 6
  own : M id = some (wB mid o W)
  map : M mid = some (mapB W.s)
  ord : (W.ord = [] ∧ o = .nils) ∨ ∃ idO, B idO = none ∧ idO ≠ id ∧ idO ≠ mid ∧ o = .ms idO 0 W.ord.length ∧ M idO = some (.cells 3 (W.ord.map irow) 0)
theorem works_drop : ∀ (ws : List Wk) (t : Nat) (r : List Lf), t < ws.length → ((ws.map Wk.row).flatten ++ r).drop (t * 13) = (ws.getD t default).row ++ ((ws.map Wk.row).flatten ++ r).drop (t * 13 + 13)
  | [], t, r, ht => by simp at ht
  | w :: ws, 0, r, _ => by simp [Wk.row]
  | w :: ws, t + 1, r, ht => by
    have ih := works_drop ws t r (by simpa using ht)
    have e : (t + 1) * 13 = t * 13 + 1 + 1 + 1 + 1 + 1 + 1 + 1 + 1 + 1 + 1 + 1 + 1 + 1 := by omega
    rw [e]
    simpa [Wk.row] using ih
theorem w_drop {W : Wit} {mid : Nat} {o : Lf} {t : Nat} (ht : t < W.ws.length) : (wRow mid o W).drop (1 + t * 13) = (W.ws.getD t default).row ++ (wRow mid o W).drop (1 + t * 13 + 13) := by
  rw [wRow, show 1 + t * 13 = (t * 13) + 1 by omega, List.drop_succ_cons, works_drop _ _ _ ht, show t * 13 + 1 + 13 = (t * 13 + 13) + 1 by omega, List.drop_succ_cons]

theorem at_out (id : Nat) (t : Int) (M : Mem) (h : t < 0 ∨ 6 ≤ t) : XCalls Go.Proofs.Try.prog 39 [.l (.ptr id 0 0), .l (.int .i64 t)] M fun r M' => r = .l .nilp ∧ M' = M := by
  refine xcalls_intro (rs := [.tmp 4]) Go.Proofs.Try.func39 rfl (by kernel_rfl) rfl rfl (by kernel_rfl) (by simp) ?_
  simp -implicitDefEqProofs (maxSteps := 1000000) (disch := omega) only [↓xsP, ↓vc_seq, xsQ, xsT, xsR, xsD, ↓reduceIte, reduceCtorEq, eq_self, ne_eq, imp_self, forall_const, Nat.reduceEqDiff, Nat.reduceAdd, Nat.reduceSub, Nat.reduceMul, Nat.reduceLT, Nat.reduceLeDiff, Nat.reduceBEq, Nat.reduceDiv, Nat.reduceMod, Int.reduceToNat, Int.reduceNeg, Int.reduceAdd, Int.reduceSub, Int.reduceMul, Int.reduceEq, Int.reduceNe, Int.reduceLT, Int.reduceLE, Int.reduceGT, Int.reduceGE]
  refine gI_prop_f (fun h1 => ?_) (fun h1 => ?_)
  · simp -implicitDefEqProofs (maxSteps := 1000000) (disch := omega) only [↓xsP, ↓vc_seq, xsQ, xsT, xsR, xsD, ↓reduceIte, reduceCtorEq, eq_self, ne_eq, imp_self, forall_const, Nat.reduceEqDiff, Nat.reduceAdd, Nat.reduceSub, Nat.reduceMul, Nat.reduceLT, Nat.reduceLeDiff, Nat.reduceBEq, Nat.reduceDiv, Nat.reduceMod, Int.reduceToNat, Int.reduceNeg, Int.reduceAdd, Int.reduceSub, Int.reduceMul, Int.reduceEq, Int.reduceNe, Int.reduceLT, Int.reduceLE, Int.reduceGT, Int.reduceGE, h1]
    refine condI_prop (fun h2 => ?_) (fun h2 => ?_)
    · simp -implicitDefEqProofs (maxSteps := 1000000) (disch := omega) only [↓xsP, ↓vc_seq, xsQ, xsT, xsR, xsD, ↓reduceIte, reduceCtorEq, eq_self, ne_eq, imp_self, forall_const, Nat.reduceEqDiff, Nat.reduceAdd, Nat.reduceSub, Nat.reduceMul, Nat.reduceLT, Nat.reduceLeDiff, Nat.reduceBEq, Nat.reduceDiv, Nat.reduceMod, Int.reduceToNat, Int.reduceNeg, Int.reduceAdd, Int.reduceSub, Int.reduceMul, Int.reduceEq, Int.reduceNe, Int.reduceLT, Int.reduceLE, Int.reduceGT, Int.reduceGE]
      exact fin_ok (Mem.le_refl _) ⟨rfl, rfl⟩
    · omega
  · simp -implicitDefEqProofs (maxSteps := 1000000) (disch := omega) only [↓xsP, ↓vc_seq, xsQ, xsT, xsR, xsD, ↓reduceIte, reduceCtorEq, eq_self, ne_eq, imp_self, forall_const, Nat.reduceEqDiff, Nat.reduceAdd, Nat.reduceSub, Nat.reduceMul, Nat.reduceLT, Nat.reduceLeDiff, Nat.reduceBEq, Nat.reduceDiv, Nat.reduceMod, Int.reduceToNat, Int.reduceNeg, Int.reduceAdd, Int.reduceSub, Int.reduceMul, Int.reduceEq, Int.reduceNe, Int.reduceLT, Int.reduceLE, Int.reduceGT, Int.reduceGE, h1]
    exact fin_ok (Mem.le_refl _) ⟨rfl, rfl⟩
theorem at_in (id t : Nat) (M : Mem) (ht : t < 6) : XCalls Go.Proofs.Try.prog 39 [.l (.ptr id 0 0), .l (.int .i64 t)] M fun r M' => r = .l (.ptr id 0 (1 + t * 13)) ∧ M' = M := by
  refine xcalls_intro (rs := [.tmp 4]) Go.Proofs.Try.func39 rfl (by kernel_rfl) rfl rfl (by kernel_rfl) (by simp) ?_
  have h1 : ¬ ((t : Int) < 0) := by omega
  have h2 : ¬ ((t : Int) ≥ 6) := by omega
  have h3 : (0 ≤ (t : Int) ∧ (t : Int) < ((6 : Nat) : Int)) = True := eq_true (by omega)
  simp -implicitDefEqProofs (maxSteps := 1000000) (disch := omega) only [↓xsP, ↓vc_seq, xsQ, xsT, xsR, xsD, ↓reduceIte, reduceCtorEq, eq_self, ne_eq, imp_self, forall_const, Nat.reduceEqDiff, Nat.reduceAdd, Nat.reduceSub, Nat.reduceMul, Nat.reduceLT, Nat.reduceLeDiff, Nat.reduceBEq, Nat.reduceDiv, Nat.reduceMod, Int.reduceToNat, Int.reduceNeg, Int.reduceAdd, Int.reduceSub, Int.reduceMul, Int.reduceEq, Int.reduceNe, Int.reduceLT, Int.reduceLE, Int.reduceGT, Int.reduceGE, h1, h2]
  rw [if_pos ⟨by omega, by omega⟩]
  simp -implicitDefEqProofs (maxSteps := 1000000) (disch := omega) only [↓xsP, ↓vc_seq, xsQ, xsT, xsR, xsD, ↓reduceIte, reduceCtorEq, eq_self, ne_eq, imp_self, forall_const, Nat.reduceEqDiff, Nat.reduceAdd, Nat.reduceSub, Nat.reduceMul, Nat.reduceLT, Nat.reduceLeDiff, Nat.reduceBEq, Nat.reduceDiv, Nat.reduceMod, Int.reduceToNat, Int.reduceNeg, Int.reduceAdd, Int.reduceSub, Int.reduceMul, Int.reduceEq, Int.reduceNe, Int.reduceLT, Int.reduceLE, Int.reduceGT, Int.reduceGE]
  exact fin_ok (Mem.le_refl _) ⟨rfl, rfl⟩
theorem wnew_spec (b : List Pr) (hb : b.length ≤ 1000000) (M : Mem) : XCalls Go.Proofs.Try.prog 21 [.l (.sl (b.map Pr.row))] M fun r M' => ∃ id mid, r = .l (.ptr id 0 0) ∧ WIn M M' id mid .nils ⟨putL b, List.replicate 6 wk0, 0, []⟩ := by
  refine xcalls_intro (rs := [.tmp 2]) Go.Proofs.Try.func21 rfl (by kernel_rfl) rfl rfl (by kernel_rfl) (by simp) ?_
  simp -implicitDefEqProofs (maxSteps := 1000000) (disch := omega) only [↓xsP, ↓vc_seq, xsQ, xsT, xsR, xsD, ↓reduceIte, reduceCtorEq, eq_self, ne_eq, imp_self, forall_const, Nat.reduceEqDiff, Nat.reduceAdd, Nat.reduceSub, Nat.reduceMul, Nat.reduceLT, Nat.reduceLeDiff, Nat.reduceBEq, Nat.reduceDiv, Nat.reduceMod, Int.reduceToNat, Int.reduceNeg, Int.reduceAdd, Int.reduceSub, Int.reduceMul, Int.reduceEq, Int.reduceNe, Int.reduceLT, Int.reduceLE, Int.reduceGT, Int.reduceGE]
  refine callI_of ((new_spec b hb _).mono ?_)
  rintro _ _ ⟨mid, hmid, rfl, rfl⟩
  simp -implicitDefEqProofs (maxSteps := 1000000) (disch := omega) only [↓xsP, ↓vc_seq, xsQ, xsT, xsR, xsD, ↓reduceIte, reduceCtorEq, eq_self, ne_eq, imp_self, forall_const, Nat.reduceEqDiff, Nat.reduceAdd, Nat.reduceSub, Nat.reduceMul, Nat.reduceLT, Nat.reduceLeDiff, Nat.reduceBEq, Nat.reduceDiv, Nat.reduceMod, Int.reduceToNat, Int.reduceNeg, Int.reduceAdd, Int.reduceSub, Int.reduceMul, Int.reduceEq, Int.reduceNe, Int.reduceLT, Int.reduceLE, Int.reduceGT, Int.reduceGE]
  refine newI_intro fun id hid => ?_
  obtain ⟨k1, hid'⟩ := bnd_new hid
  simp -implicitDefEqProofs (maxSteps := 1000000) (disch := omega) only [↓xsP, ↓vc_seq, xsQ, xsT, xsR, xsD, ↓reduceIte, reduceCtorEq, eq_self, ne_eq, imp_self, forall_const, Nat.reduceEqDiff, Nat.reduceAdd, Nat.reduceSub, Nat.reduceMul, Nat.reduceLT, Nat.reduceLeDiff, Nat.reduceBEq, Nat.reduceDiv, Nat.reduceMod, Int.reduceToNat, Int.reduceNeg, Int.reduceAdd, Int.reduceSub, Int.reduceMul, Int.reduceEq, Int.reduceNe, Int.reduceLT, Int.reduceLE, Int.reduceGT, Int.reduceGE]
  refine fin_ok (Mem.le_refl _) ⟨id, mid, rfl, le_new (le_new (Mem.le_refl _) hmid) hid', hid' _ (Nat.le_refl _), hmid _ (Nat.le_refl _), by omega, rfl, ?_, ?_, .inl ⟨rfl, rfl⟩⟩
  · rw [Mem.set_eq]
    rfl
  · rw [Mem.set_ne _ _ _ _ (by omega), Mem.set_eq]
theorem row_wk (w : Wk) : w.row = [.bool w.busy, .int .i64 w.op.kind, .int .i64 w.op.key, .int .i64 w.op.to, .int .i64 w.op.val, .int .i64 w.call, .bool w.took, .int .i64 w.ans.err, .bool w.ans.ok, .int .i64 w.ans.pair.key, .int .i64 w.ans.pair.val, .int .i64 w.ans.n, if w.took = true then .sl (w.ans.pairs.map Pr.row) else .nils] := rfl
theorem neq_nil2 (P : Program) (t : TypeId) (x : Operand) (K : AV → Prop) : @binI P .neq t x (.const (.pointer none)) (.l .nilp) (.l .nilp) ⟨K⟩ = @optI _ (eqA P t (.l .nilp) (.l .nilp)) ⟨fun r => K (.l (.bool (!r)))⟩ := neq_nilp P t x _ _ rfl (fun _ _ h => by cases h) K
theorem busy_out (id : Nat) (t : Int) (M : Mem) (h : t < 0 ∨ 6 ≤ t) : XCalls Go.Proofs.Try.prog 19 [.l (.ptr id 0 0), .l (.int .i64 t)] M fun r M' => r = .l (.bool false) ∧ M' = M := by
  refine xcalls_intro (rs := [.tmp 4]) Go.Proofs.Try.func19 rfl (by kernel_rfl) rfl rfl (by kernel_rfl) (by simp) ?_
  simp -implicitDefEqProofs (maxSteps := 1000000) (disch := omega) only [↓xsP, ↓vc_seq, xsQ, xsT, xsR, xsD, ↓reduceIte, reduceCtorEq, eq_self, ne_eq, imp_self, forall_const, Nat.reduceEqDiff, Nat.reduceAdd, Nat.reduceSub, Nat.reduceMul, Nat.reduceLT, Nat.reduceLeDiff, Nat.reduceBEq, Nat.reduceDiv, Nat.reduceMod, Int.reduceToNat, Int.reduceNeg, Int.reduceAdd, Int.reduceSub, Int.reduceMul, Int.reduceEq, Int.reduceNe, Int.reduceLT, Int.reduceLE, Int.reduceGT, Int.reduceGE]
  refine call_of (at_out id t _ h) ?_
  simp -implicitDefEqProofs (maxSteps := 1000000) (disch := omega) only [↓xsP, ↓vc_seq, xsQ, xsT, xsR, xsD, ↓reduceIte, reduceCtorEq, eq_self, ne_eq, imp_self, forall_const, Nat.reduceEqDiff, Nat.reduceAdd, Nat.reduceSub, Nat.reduceMul, Nat.reduceLT, Nat.reduceLeDiff, Nat.reduceBEq, Nat.reduceDiv, Nat.reduceMod, Int.reduceToNat, Int.reduceNeg, Int.reduceAdd, Int.reduceSub, Int.reduceMul, Int.reduceEq, Int.reduceNe, Int.reduceLT, Int.reduceLE, Int.reduceGT, Int.reduceGE, neq_nil2]
  exact fin_ok (Mem.le_refl _) ⟨rfl, rfl⟩
theorem busy_in {B M : Mem} {id mid : Nat} {o : Lf} {W : Wit} (hW : WIn B M id mid o W) (t : Nat) (ht : t < 6) : XCalls Go.Proofs.Try.prog 19 [.l (.ptr id 0 0), .l (.int .i64 t)] M fun r M' => r = .l (.bool (W.ws.getD t default).busy) ∧ M' = M := by
  refine xcalls_intro (rs := [.tmp 4]) Go.Proofs.Try.func19 rfl (by kernel_rfl) rfl rfl (by kernel_rfl) (by simp) ?_
  have hM := hW.own
  rw [wB] at hM
  have hd := w_drop (W := W) (mid := mid) (o := o) (t := t) (by have := hW.six; omega)
  rw [row_wk] at hd
  simp -implicitDefEqProofs (maxSteps := 1000000) (disch := omega) only [↓xsP, ↓vc_seq, xsQ, xsT, xsR, xsD, ↓reduceIte, reduceCtorEq, eq_self, ne_eq, imp_self, forall_const, Nat.reduceEqDiff, Nat.reduceAdd, Nat.reduceSub, Nat.reduceMul, Nat.reduceLT, Nat.reduceLeDiff, Nat.reduceBEq, Nat.reduceDiv, Nat.reduceMod, Int.reduceToNat, Int.reduceNeg, Int.reduceAdd, Int.reduceSub, Int.reduceMul, Int.reduceEq, Int.reduceNe, Int.reduceLT, Int.reduceLE, Int.reduceGT, Int.reduceGE]
  refine call_of (at_in id t _ ht) ?_
  simp -implicitDefEqProofs (maxSteps := 1000000) (disch := omega) only [↓xsP, ↓vc_seq, xsQ, xsT, xsR, xsD, ↓reduceIte, reduceCtorEq, eq_self, ne_eq, imp_self, forall_const, Nat.reduceEqDiff, Nat.reduceAdd, Nat.reduceSub, Nat.reduceMul, Nat.reduceLT, Nat.reduceLeDiff, Nat.reduceBEq, Nat.reduceDiv, Nat.reduceMod, Int.reduceToNat, Int.reduceNeg, Int.reduceAdd, Int.reduceSub, Int.reduceMul, Int.reduceEq, Int.reduceNe, Int.reduceLT, Int.reduceLE, Int.reduceGT, Int.reduceGE, hM, hd]
  exact fin_ok (Mem.le_refl _) ⟨rfl, rfl⟩
end Go.X
set_option linter.unusedVariables false
set_option linter.unusedSimpArgs false
set_option maxHeartbeats 20000000
set_option maxRecDepth 100000
namespace Go.X
open Go.Proofs.Try (prog)

theorem works_len : ∀ (ws : List Wk), ((ws.map Wk.row).flatten).length = 13 * ws.length
  | [] => rfl
  | w :: ws => by
    have := works_len ws
    rw [List.map_cons, List.flatten_cons, List.length_append, this, List.length_cons]
    simp only [Wk.row, List.length_cons, List.length_nil]
    omega
theorem w_len {W : Wit} {mid : Nat} {o : Lf} (h : W.ws.length = 6) : (wRow mid o W).length = 81 := by
  rw [wRow, List.length_cons, List.length_append, works_len, h]
  rfl
theorem w_tail {W : Wit} {mid : Nat} {o : Lf} (h : W.ws.length = 6) : (wRow mid o W).drop 79 = [.int .i64 W.calls, o] := by
  rw [wRow, show 79 = 78 + 1 from rfl, List.drop_succ_cons, List.drop_left' (by rw [works_len, h])]
theorem w_head {W : Wit} {mid : Nat} {o : Lf} (h : W.ws.length = 6) : (wRow mid o W).take 79 = .ptr mid 0 0 :: (W.ws.map Wk.row).flatten := by
  rw [wRow, show 79 = 78 + 1 from rfl, List.take_succ_cons, List.take_left' (by rw [works_len, h])]
theorem works_set : ∀ (ws : List Wk) (t : Nat) (w : Wk) (r : List Lf), t < ws.length → ((ws.map Wk.row).flatten ++ r).take (t * 13) ++ w.row ++ ((ws.map Wk.row).flatten ++ r).drop (t * 13 + 13) = ((ws.set t w).map Wk.row).flatten ++ r
  | [], t, _, r, ht => by simp at ht
  | x :: ws, 0, w, r, _ => by simp [Wk.row]
  | x :: ws, t + 1, w, r, ht => by
    have ih := works_set ws t w r (by simpa using ht)
    have e : (t + 1) * 13 = t * 13 + 1 + 1 + 1 + 1 + 1 + 1 + 1 + 1 + 1 + 1 + 1 + 1 + 1 := by omega
    rw [e]
    simpa [Wk.row] using ih
theorem w_set {W : Wit} {mid : Nat} {o : Lf} {t : Nat} (ht : t < W.ws.length) (w : Wk) : (wRow mid o W).take (1 + t * 13) ++ w.row ++ (wRow mid o W).drop (1 + t * 13 + 13) = wRow mid o { W with ws := W.ws.set t w } := by
  rw [wRow, wRow, show 1 + t * 13 = (t * 13) + 1 by omega, List.take_succ_cons, show t * 13 + 1 + 13 = (t * 13 + 13) + 1 by omega, List.drop_succ_cons]
  have := works_set W.ws t w [.int .i64 W.calls, o] ht
  simp only [List.cons_append]
  rw [this]
theorem w_calls {W : Wit} {mid : Nat} {o : Lf} (h : W.ws.length = 6) (n : Nat) : (wRow mid o W).take 79 ++ [.int .i64 n] ++ (wRow mid o W).drop 80 = wRow mid o { W with calls := n } := by
  rw [w_head h, show 80 = 79 + 1 from rfl, ← List.drop_drop, w_tail h, wRow]
  simp
theorem WIn.upd {B M N : Mem} {id mid : Nat} {o : Lf} {W V : Wit} (h : WIn B M id mid o W) (hN : N id = some (wB mid o V)) (hk : ∀ k bk, k ≠ id → M k = some bk → N k = some bk) (h6 : V.ws.length = 6) (hs : V.s = W.s) (ho : V.ord = W.ord) : WIn B N id mid o V := by
  have hB : ∀ k, B k ≠ none → k ≠ id := fun k hk e => hk (e ▸ h.nid)
  refine ⟨fun k bk hb => hk _ _ (hB _ (by rw [hb]; simp)) (h.le _ _ hb), h.nid, h.nmid, h.ne, h6, hN, by rw [hs]; exact hk _ _ h.ne h.map, ?_⟩
  rw [ho]
  rcases h.ord with h | ⟨idO, a1, a2, a3, a4, a5⟩
  · exact .inl h
  · exact .inr ⟨idO, a1, a2, a3, a4, hk _ _ a2 a5⟩
def callW (W : Wit) (t : Nat) (op : Opn) : Wit := { W with ws := W.ws.set t ⟨true, op, W.calls, false, ans0⟩, calls := W.calls + 1 }
def canCall (W : Wit) (t : Nat) (op : Opn) : Bool := !(W.ws.getD t default).busy && mayOpB op
theorem call_out (id : Nat) (t : Int) (op : Opn) (M : Mem) (h : t < 0 ∨ 6 ≤ t) : XCalls Go.Proofs.Try.prog 14 [.l (.ptr id 0 0), .l (.int .i64 t), .agg op.row] M fun r M' => r = .l (.bool false) ∧ M' = M := by
  refine xcalls_intro (rs := [.tmp 6]) Go.Proofs.Try.func14 rfl (by kernel_rfl) rfl rfl (by kernel_rfl) (by simp) ?_
  simp -implicitDefEqProofs (maxSteps := 1000000) (disch := omega) only [↓xsP, ↓vc_seq, xsQ, xsT, xsR, xsD, ↓reduceIte, reduceCtorEq, eq_self, ne_eq, imp_self, forall_const, Nat.reduceEqDiff, Nat.reduceAdd, Nat.reduceSub, Nat.reduceMul, Nat.reduceLT, Nat.reduceLeDiff, Nat.reduceBEq, Nat.reduceDiv, Nat.reduceMod, Int.reduceToNat, Int.reduceNeg, Int.reduceAdd, Int.reduceSub, Int.reduceMul, Int.reduceEq, Int.reduceNe, Int.reduceLT, Int.reduceLE, Int.reduceGT, Int.reduceGE]
  refine newI_intro fun id hid => ?_
  simp -implicitDefEqProofs (maxSteps := 1000000) (disch := omega) only [↓xsP, ↓vc_seq, xsQ, xsT, xsR, xsD, ↓reduceIte, reduceCtorEq, eq_self, ne_eq, imp_self, forall_const, Nat.reduceEqDiff, Nat.reduceAdd, Nat.reduceSub, Nat.reduceMul, Nat.reduceLT, Nat.reduceLeDiff, Nat.reduceBEq, Nat.reduceDiv, Nat.reduceMod, Int.reduceToNat, Int.reduceNeg, Int.reduceAdd, Int.reduceSub, Int.reduceMul, Int.reduceEq, Int.reduceNe, Int.reduceLT, Int.reduceLE, Int.reduceGT, Int.reduceGE]
  refine call_of (at_out _ t _ h) ?_
  simp -implicitDefEqProofs (maxSteps := 1000000) (disch := omega) only [↓xsP, ↓vc_seq, xsQ, xsT, xsR, xsD, ↓reduceIte, reduceCtorEq, eq_self, ne_eq, imp_self, forall_const, Nat.reduceEqDiff, Nat.reduceAdd, Nat.reduceSub, Nat.reduceMul, Nat.reduceLT, Nat.reduceLeDiff, Nat.reduceBEq, Nat.reduceDiv, Nat.reduceMod, Int.reduceToNat, Int.reduceNeg, Int.reduceAdd, Int.reduceSub, Int.reduceMul, Int.reduceEq, Int.reduceNe, Int.reduceLT, Int.reduceLE, Int.reduceGT, Int.reduceGE]
  exact fin_ok (le_new (Mem.le_refl _) hid) ⟨rfl, rfl⟩
theorem call_in {B M : Mem} {id mid : Nat} {o : Lf} {W : Wit} (hW : WIn B M id mid o W) (hc : W.calls ≤ 1000000) (t : Nat) (ht : t < 6) (op : Opn) :
    XCalls Go.Proofs.Try.prog 14 [.l (.ptr id 0 0), .l (.int .i64 t), .agg op.row] M fun r M' => r = .l (.bool (canCall W t op)) ∧ WIn B M' id mid o (if canCall W t op = true then callW W t op else W) := by
  refine xcalls_intro (rs := [.tmp 6]) Go.Proofs.Try.func14 rfl (by kernel_rfl) rfl rfl (by kernel_rfl) (by simp) ?_
  have hM := hW.own
  rw [wB] at hM
  have ht6 : t < W.ws.length := by have := hW.six; omega
  have hd := w_drop (W := W) (mid := mid) (o := o) ht6
  rw [row_wk] at hd
  simp -implicitDefEqProofs (maxSteps := 1000000) (disch := omega) only [↓xsP, ↓vc_seq, xsQ, xsT, xsR, xsD, ↓reduceIte, reduceCtorEq, eq_self, ne_eq, imp_self, forall_const, Nat.reduceEqDiff, Nat.reduceAdd, Nat.reduceSub, Nat.reduceMul, Nat.reduceLT, Nat.reduceLeDiff, Nat.reduceBEq, Nat.reduceDiv, Nat.reduceMod, Int.reduceToNat, Int.reduceNeg, Int.reduceAdd, Int.reduceSub, Int.reduceMul, Int.reduceEq, Int.reduceNe, Int.reduceLT, Int.reduceLE, Int.reduceGT, Int.reduceGE]
  refine newI_intro fun id5 hid5 => ?_
  have k5 := lt_of_bnd hid5 hM
  simp -implicitDefEqProofs (maxSteps := 1000000) (disch := omega) only [↓xsP, ↓vc_seq, xsQ, xsT, xsR, xsD, ↓reduceIte, reduceCtorEq, eq_self, ne_eq, imp_self, forall_const, Nat.reduceEqDiff, Nat.reduceAdd, Nat.reduceSub, Nat.reduceMul, Nat.reduceLT, Nat.reduceLeDiff, Nat.reduceBEq, Nat.reduceDiv, Nat.reduceMod, Int.reduceToNat, Int.reduceNeg, Int.reduceAdd, Int.reduceSub, Int.reduceMul, Int.reduceEq, Int.reduceNe, Int.reduceLT, Int.reduceLE, Int.reduceGT, Int.reduceGE]
  refine call_of (at_in id t _ ht) ?_
  have hM2 : (M.set id5 (.cells 23 [op.row] 0)) id = some (.cells 83 [wRow mid o W] 0) := by rw [Mem.set_ne _ _ _ _ (by omega)]; exact hM
  have hno : ∀ X : Blk, WIn B (M.set id5 X) id mid o W := fun X => by
    have keep : ∀ k bk, M k = some bk → (M.set id5 X) k = some bk := fun k bk hk => by
      have := lt_of_bnd hid5 hk
      rw [Mem.set_ne _ _ _ _ (by omega)]
      exact hk
    refine ⟨fun k bk hk => keep _ _ (hW.le _ _ hk), hW.nid, hW.nmid, hW.ne, hW.six, keep _ _ hW.own, keep _ _ hW.map, ?_⟩
    rcases hW.ord with h | ⟨idO, a1, a2, a3, a4, a5⟩
    · exact .inl h
    · exact .inr ⟨idO, a1, a2, a3, a4, keep _ _ a5⟩
  rw [row_opn] at hM2
  simp -implicitDefEqProofs (maxSteps := 1000000) (disch := omega) only [↓xsP, ↓vc_seq, xsQ, xsT, xsR, xsD, ↓reduceIte, reduceCtorEq, eq_self, ne_eq, imp_self, forall_const, Nat.reduceEqDiff, Nat.reduceAdd, Nat.reduceSub, Nat.reduceMul, Nat.reduceLT, Nat.reduceLeDiff, Nat.reduceBEq, Nat.reduceDiv, Nat.reduceMod, Int.reduceToNat, Int.reduceNeg, Int.reduceAdd, Int.reduceSub, Int.reduceMul, Int.reduceEq, Int.reduceNe, Int.reduceLT, Int.reduceLE, Int.reduceGT, Int.reduceGE, hM, hd]
  cases hb : (W.ws.getD t default).busy with
  | true =>
    simp -implicitDefEqProofs (maxSteps := 1000000) (disch := omega) only [↓xsP, ↓vc_seq, xsQ, xsT, xsR, xsD, ↓reduceIte, reduceCtorEq, eq_self, ne_eq, imp_self, forall_const, Nat.reduceEqDiff, Nat.reduceAdd, Nat.reduceSub, Nat.reduceMul, Nat.reduceLT, Nat.reduceLeDiff, Nat.reduceBEq, Nat.reduceDiv, Nat.reduceMod, Int.reduceToNat, Int.reduceNeg, Int.reduceAdd, Int.reduceSub, Int.reduceMul, Int.reduceEq, Int.reduceNe, Int.reduceLT, Int.reduceLE, Int.reduceGT, Int.reduceGE]
    refine fin_ok (Mem.le_refl _) ?_
    rw [canCall, hb]
    exact ⟨rfl, hno _⟩
  | false =>
    simp -implicitDefEqProofs (maxSteps := 1000000) (disch := omega) only [↓xsP, ↓vc_seq, xsQ, xsT, xsR, xsD, ↓reduceIte, reduceCtorEq, eq_self, ne_eq, imp_self, forall_const, Nat.reduceEqDiff, Nat.reduceAdd, Nat.reduceSub, Nat.reduceMul, Nat.reduceLT, Nat.reduceLeDiff, Nat.reduceBEq, Nat.reduceDiv, Nat.reduceMod, Int.reduceToNat, Int.reduceNeg, Int.reduceAdd, Int.reduceSub, Int.reduceMul, Int.reduceEq, Int.reduceNe, Int.reduceLT, Int.reduceLE, Int.reduceGT, Int.reduceGE]
    refine call_of (mayOp_spec op _) ?_
    cases hmo : mayOpB op with
    | false =>
      simp -implicitDefEqProofs (maxSteps := 1000000) (disch := omega) only [↓xsP, ↓vc_seq, xsQ, xsT, xsR, xsD, ↓reduceIte, reduceCtorEq, eq_self, ne_eq, imp_self, forall_const, Nat.reduceEqDiff, Nat.reduceAdd, Nat.reduceSub, Nat.reduceMul, Nat.reduceLT, Nat.reduceLeDiff, Nat.reduceBEq, Nat.reduceDiv, Nat.reduceMod, Int.reduceToNat, Int.reduceNeg, Int.reduceAdd, Int.reduceSub, Int.reduceMul, Int.reduceEq, Int.reduceNe, Int.reduceLT, Int.reduceLE, Int.reduceGT, Int.reduceGE]
      refine fin_ok (Mem.le_refl _) ?_
      rw [canCall, hb, hmo]
      exact ⟨rfl, hno _⟩
    | true =>
      simp -implicitDefEqProofs (maxSteps := 1000000) (disch := omega) only [↓xsP, ↓vc_seq, xsQ, xsT, xsR, xsD, ↓reduceIte, reduceCtorEq, eq_self, ne_eq, imp_self, forall_const, Nat.reduceEqDiff, Nat.reduceAdd, Nat.reduceSub, Nat.reduceMul, Nat.reduceLT, Nat.reduceLeDiff, Nat.reduceBEq, Nat.reduceDiv, Nat.reduceMod, Int.reduceToNat, Int.reduceNeg, Int.reduceAdd, Int.reduceSub, Int.reduceMul, Int.reduceEq, Int.reduceNe, Int.reduceLT, Int.reduceLE, Int.reduceGT, Int.reduceGE]
      have htl := w_tail (W := W) (mid := mid) (o := o) hW.six
      have hln := w_len (W := W) (mid := mid) (o := o) hW.six
      have hso := w_set (W := W) (mid := mid) (o := o) ht6 ⟨true, op, W.calls, false, ans0⟩
      rw [row_wk] at hso
      simp only [Bool.false_eq_true, if_false, ans0] at hso
      have hle1 : (1 + t * 13 + 13 ≤ 81) = True := eq_true (by omega)
      refine xwrite (fun n0 => [ (8, id)]) [8] [] [[], [], [], [], [], [], [], [], []] (by kernel_rfl) (by kernel_rfl) (by kernel_rfl) (by kernel_rfl) (fun n0 hn0 => ⟨rfl, ?_, ?_⟩)
      · exact TOk_cons (.inl (by have := lt_of_bnd hn0 (Mem.set_eq _ id5 _); omega)) (TOk_nil _ _)
      · have k0 := lt_of_bnd hn0 (Mem.set_eq _ id5 _)
        simp -implicitDefEqProofs (maxSteps := 1000000) (disch := omega) only [↓xsP, ↓vc_seq, xsQ, xsT, xsR, xsD, ↓reduceIte, reduceCtorEq, eq_self, ne_eq, imp_self, forall_const, Nat.reduceEqDiff, Nat.reduceAdd, Nat.reduceSub, Nat.reduceMul, Nat.reduceLT, Nat.reduceLeDiff, Nat.reduceBEq, Nat.reduceDiv, Nat.reduceMod, Int.reduceToNat, Int.reduceNeg, Int.reduceAdd, Int.reduceSub, Int.reduceMul, Int.reduceEq, Int.reduceNe, Int.reduceLT, Int.reduceLE, Int.reduceGT, Int.reduceGE, hM, hd, htl, hln, hle1]
        rw [hso]
        obtain ⟨V, hV⟩ : ∃ V : Wit, V = { W with ws := W.ws.set t ⟨true, op, W.calls, false, ⟨0, false, ⟨0, 0⟩, 0, []⟩⟩ } := ⟨_, rfl⟩
        rw [← hV]
        have hV6 : V.ws.length = 6 := by rw [hV]; simpa using hW.six
        have hVc : V.calls = W.calls := by rw [hV]
        have htl' := w_tail (W := V) (mid := mid) (o := o) hV6
        have hln' := w_len (W := V) (mid := mid) (o := o) hV6
        have wc : IntKind.i64.wrap ((W.calls : Int) + 1) = (W.calls : Int) + 1 := wrap_in (by omega) (by omega)
        rw [hVc] at htl'
        simp -implicitDefEqProofs (maxSteps := 1000000) (disch := omega) only [↓xsP, ↓vc_seq, xsQ, xsT, xsR, xsD, ↓reduceIte, reduceCtorEq, eq_self, ne_eq, imp_self, forall_const, Nat.reduceEqDiff, Nat.reduceAdd, Nat.reduceSub, Nat.reduceMul, Nat.reduceLT, Nat.reduceLeDiff, Nat.reduceBEq, Nat.reduceDiv, Nat.reduceMod, Int.reduceToNat, Int.reduceNeg, Int.reduceAdd, Int.reduceSub, Int.reduceMul, Int.reduceEq, Int.reduceNe, Int.reduceLT, Int.reduceLE, Int.reduceGT, Int.reduceGE, htl', hln', wc]
        have ewc := w_calls (W := V) (mid := mid) (o := o) hV6 (W.calls + 1)
        rw [show (((W.calls + 1 : Nat) : Int)) = (W.calls : Int) + 1 by omega] at ewc
        rw [ewc]
        refine fin_ok (Mem.le_refl _) ?_
        have hcc : canCall W t op = true := by rw [canCall, hb, hmo]; rfl
        rw [hcc]
        refine ⟨rfl, hW.upd (by rw [Mem.set_eq, wB, hV]; rfl) (fun k bk hk h => ?_) (by simpa [callW] using hW.six) rfl rfl⟩
        have := lt_of_bnd hid5 h
        rw [Mem.set_ne _ _ _ _ (fun e => hk e.symm), Mem.set_ne _ _ _ _ (by omega)]
        exact h
end Go.X
set_option linter.unusedVariables false
set_option linter.unusedSimpArgs false
set_option maxHeartbeats 20000000
set_option maxRecDepth 100000
namespace Go.X
open Go.Proofs.Try (prog)

noncomputable def retB (W : Wit) (t : Nat) (a : Ans) : Bool := (W.ws.getD t default).busy && (if (W.ws.getD t default).took = true then bof ((W.ws.getD t default).ans = a) else !decide (a.err = 0))
def retW (W : Wit) (t : Nat) : Wit := if (W.ws.getD t default).busy = true then { W with ws := W.ws.set t wk0 } else W
theorem ret_out (id : Nat) (t : Int) (a : Ans) (M : Mem) (h : t < 0 ∨ 6 ≤ t) : XCalls Go.Proofs.Try.prog 16 [.l (.ptr id 0 0), .l (.int .i64 t), .agg a.row] M fun r M' => r = .l (.bool false) ∧ M' = M := by
  refine xcalls_intro (rs := [.tmp 6]) Go.Proofs.Try.func16 rfl (by kernel_rfl) rfl rfl (by kernel_rfl) (by simp) ?_
  simp -implicitDefEqProofs (maxSteps := 1000000) (disch := omega) only [↓xsP, ↓vc_seq, xsQ, xsT, xsR, xsD, ↓reduceIte, reduceCtorEq, eq_self, ne_eq, imp_self, forall_const, Nat.reduceEqDiff, Nat.reduceAdd, Nat.reduceSub, Nat.reduceMul, Nat.reduceLT, Nat.reduceLeDiff, Nat.reduceBEq, Nat.reduceDiv, Nat.reduceMod, Int.reduceToNat, Int.reduceNeg, Int.reduceAdd, Int.reduceSub, Int.reduceMul, Int.reduceEq, Int.reduceNe, Int.reduceLT, Int.reduceLE, Int.reduceGT, Int.reduceGE]
  refine newI_intro fun id hid => ?_
  simp -implicitDefEqProofs (maxSteps := 1000000) (disch := omega) only [↓xsP, ↓vc_seq, xsQ, xsT, xsR, xsD, ↓reduceIte, reduceCtorEq, eq_self, ne_eq, imp_self, forall_const, Nat.reduceEqDiff, Nat.reduceAdd, Nat.reduceSub, Nat.reduceMul, Nat.reduceLT, Nat.reduceLeDiff, Nat.reduceBEq, Nat.reduceDiv, Nat.reduceMod, Int.reduceToNat, Int.reduceNeg, Int.reduceAdd, Int.reduceSub, Int.reduceMul, Int.reduceEq, Int.reduceNe, Int.reduceLT, Int.reduceLE, Int.reduceGT, Int.reduceGE]
  refine call_of (busy_out _ t _ h) ?_
  simp -implicitDefEqProofs (maxSteps := 1000000) (disch := omega) only [↓xsP, ↓vc_seq, xsQ, xsT, xsR, xsD, ↓reduceIte, reduceCtorEq, eq_self, ne_eq, imp_self, forall_const, Nat.reduceEqDiff, Nat.reduceAdd, Nat.reduceSub, Nat.reduceMul, Nat.reduceLT, Nat.reduceLeDiff, Nat.reduceBEq, Nat.reduceDiv, Nat.reduceMod, Int.reduceToNat, Int.reduceNeg, Int.reduceAdd, Int.reduceSub, Int.reduceMul, Int.reduceEq, Int.reduceNe, Int.reduceLT, Int.reduceLE, Int.reduceGT, Int.reduceGE]
  exact fin_ok (le_new (Mem.le_refl _) hid) ⟨rfl, rfl⟩
theorem WIn.new {B M : Mem} {id mid : Nat} {o : Lf} {W : Wit} (hW : WIn B M id mid o W) {i : Nat} (hi : ∀ j, i ≤ j → M j = none) (X : Blk) : WIn B (M.set i X) id mid o W := by
  have keep : ∀ k bk, M k = some bk → (M.set i X) k = some bk := fun k bk hk => by
    have := lt_of_bnd hi hk
    rw [Mem.set_ne _ _ _ _ (by omega)]
    exact hk
  exact hW.upd (keep _ _ hW.own) (fun k bk _ hk => keep _ _ hk) hW.six rfl rfl
theorem ret_in {B M : Mem} {id mid : Nat} {o : Lf} {W : Wit} (hW : WIn B M id mid o W) (t : Nat) (ht : t < 6) (a : Ans) (hp : (W.ws.getD t default).ans.pairs.length ≤ 1000000) :
    XCalls Go.Proofs.Try.prog 16 [.l (.ptr id 0 0), .l (.int .i64 t), .agg a.row] M fun r M' => r = .l (.bool (retB W t a)) ∧ WIn B M' id mid o (retW W t) := by
  refine xcalls_intro (rs := [.tmp 6]) Go.Proofs.Try.func16 rfl (by kernel_rfl) rfl rfl (by kernel_rfl) (by simp) ?_
  have hM := hW.own
  rw [wB] at hM
  have ht6 : t < W.ws.length := by have := hW.six; omega
  have hd := w_drop (W := W) (mid := mid) (o := o) ht6
  have hln := w_len (W := W) (mid := mid) (o := o) hW.six
  have hso := w_set (W := W) (mid := mid) (o := o) ht6 wk0
  rw [row_wk] at hd hso
  simp only [wk0, Bool.false_eq_true, if_false, ans0] at hso
  have hle1 : (1 + t * 13 + 13 ≤ 81) = True := eq_true (by omega)
  simp -implicitDefEqProofs (maxSteps := 1000000) (disch := omega) only [↓xsP, ↓vc_seq, xsQ, xsT, xsR, xsD, ↓reduceIte, reduceCtorEq, eq_self, ne_eq, imp_self, forall_const, Nat.reduceEqDiff, Nat.reduceAdd, Nat.reduceSub, Nat.reduceMul, Nat.reduceLT, Nat.reduceLeDiff, Nat.reduceBEq, Nat.reduceDiv, Nat.reduceMod, Int.reduceToNat, Int.reduceNeg, Int.reduceAdd, Int.reduceSub, Int.reduceMul, Int.reduceEq, Int.reduceNe, Int.reduceLT, Int.reduceLE, Int.reduceGT, Int.reduceGE]
  refine newI_intro fun id5 hid5 => ?_
  have k5 := lt_of_bnd hid5 hM
  have hW5 := hW.new hid5 (.cells 29 [a.row] 0)
  simp -implicitDefEqProofs (maxSteps := 1000000) (disch := omega) only [↓xsP, ↓vc_seq, xsQ, xsT, xsR, xsD, ↓reduceIte, reduceCtorEq, eq_self, ne_eq, imp_self, forall_const, Nat.reduceEqDiff, Nat.reduceAdd, Nat.reduceSub, Nat.reduceMul, Nat.reduceLT, Nat.reduceLeDiff, Nat.reduceBEq, Nat.reduceDiv, Nat.reduceMod, Int.reduceToNat, Int.reduceNeg, Int.reduceAdd, Int.reduceSub, Int.reduceMul, Int.reduceEq, Int.reduceNe, Int.reduceLT, Int.reduceLE, Int.reduceGT, Int.reduceGE]
  refine call_of (busy_in hW5 t ht) ?_
  rw [retB, retW]
  cases hb : (W.ws.getD t default).busy with
  | false =>
    simp -implicitDefEqProofs (maxSteps := 1000000) (disch := omega) only [↓xsP, ↓vc_seq, xsQ, xsT, xsR, xsD, ↓reduceIte, reduceCtorEq, eq_self, ne_eq, imp_self, forall_const, Nat.reduceEqDiff, Nat.reduceAdd, Nat.reduceSub, Nat.reduceMul, Nat.reduceLT, Nat.reduceLeDiff, Nat.reduceBEq, Nat.reduceDiv, Nat.reduceMod, Int.reduceToNat, Int.reduceNeg, Int.reduceAdd, Int.reduceSub, Int.reduceMul, Int.reduceEq, Int.reduceNe, Int.reduceLT, Int.reduceLE, Int.reduceGT, Int.reduceGE]
    refine fin_ok (Mem.le_refl _) ⟨rfl, ?_⟩
    simp only [Bool.false_eq_true, if_false]
    exact hW5
  | true =>
    have hq : (0 ≤ (t : Int) ∧ (t : Int) < ((6 : Nat) : Int)) = True := eq_true ⟨by omega, by omega⟩
    simp -implicitDefEqProofs (maxSteps := 1000000) (disch := omega) only [↓xsP, ↓vc_seq, xsQ, xsT, xsR, xsD, ↓reduceIte, reduceCtorEq, eq_self, ne_eq, imp_self, forall_const, Nat.reduceEqDiff, Nat.reduceAdd, Nat.reduceSub, Nat.reduceMul, Nat.reduceLT, Nat.reduceLeDiff, Nat.reduceBEq, Nat.reduceDiv, Nat.reduceMod, Int.reduceToNat, Int.reduceNeg, Int.reduceAdd, Int.reduceSub, Int.reduceMul, Int.reduceEq, Int.reduceNe, Int.reduceLT, Int.reduceLE, Int.reduceGT, Int.reduceGE, hM]
    rw [if_pos ⟨by omega, by omega⟩]
    simp -implicitDefEqProofs (maxSteps := 1000000) (disch := omega) only [↓xsP, ↓vc_seq, xsQ, xsT, xsR, xsD, ↓reduceIte, reduceCtorEq, eq_self, ne_eq, imp_self, forall_const, Nat.reduceEqDiff, Nat.reduceAdd, Nat.reduceSub, Nat.reduceMul, Nat.reduceLT, Nat.reduceLeDiff, Nat.reduceBEq, Nat.reduceDiv, Nat.reduceMod, Int.reduceToNat, Int.reduceNeg, Int.reduceAdd, Int.reduceSub, Int.reduceMul, Int.reduceEq, Int.reduceNe, Int.reduceLT, Int.reduceLE, Int.reduceGT, Int.reduceGE, hM, hd]
    refine newI_intro fun id7 hid7 => ?_
    simp -implicitDefEqProofs (maxSteps := 1000000) (disch := omega) only [↓xsP, ↓vc_seq, xsQ, xsT, xsR, xsD, ↓reduceIte, reduceCtorEq, eq_self, ne_eq, imp_self, forall_const, Nat.reduceEqDiff, Nat.reduceAdd, Nat.reduceSub, Nat.reduceMul, Nat.reduceLT, Nat.reduceLeDiff, Nat.reduceBEq, Nat.reduceDiv, Nat.reduceMod, Int.reduceToNat, Int.reduceNeg, Int.reduceAdd, Int.reduceSub, Int.reduceMul, Int.reduceEq, Int.reduceNe, Int.reduceLT, Int.reduceLE, Int.reduceGT, Int.reduceGE, hM, hd]
    rw [if_pos ⟨by omega, by omega⟩]
    obtain ⟨k57, hid7M⟩ := bnd_new hid7
    have k7 := lt_of_bnd hid7M hM
    simp -implicitDefEqProofs (maxSteps := 1000000) (disch := omega) only [↓xsP, ↓vc_seq, xsQ, xsT, xsR, xsD, ↓reduceIte, reduceCtorEq, eq_self, ne_eq, imp_self, forall_const, Nat.reduceEqDiff, Nat.reduceAdd, Nat.reduceSub, Nat.reduceMul, Nat.reduceLT, Nat.reduceLeDiff, Nat.reduceBEq, Nat.reduceDiv, Nat.reduceMod, Int.reduceToNat, Int.reduceNeg, Int.reduceAdd, Int.reduceSub, Int.reduceMul, Int.reduceEq, Int.reduceNe, Int.reduceLT, Int.reduceLE, Int.reduceGT, Int.reduceGE, hM, hd, hln, hle1]
    rw [hso]
    have hend : ∀ X Y : Blk, WIn B (((M.set id5 X).set id7 Y).set id (wB mid o { W with ws := W.ws.set t wk0 })) id mid o { W with ws := W.ws.set t wk0 } := fun X Y =>
      hW.upd (Mem.set_eq _ _ _) (fun k bk hk h => by
        have a1 := lt_of_bnd hid5 h
        have a2 := lt_of_bnd hid7M h
        rw [Mem.set_ne _ _ _ _ (fun e => hk e.symm), Mem.set_ne _ _ _ _ (by omega), Mem.set_ne _ _ _ _ (by omega)]
        exact h) (by simpa using hW.six) rfl rfl
    cases htk : (W.ws.getD t default).took with
    | true =>
      simp -implicitDefEqProofs (maxSteps := 1000000) (disch := omega) only [↓xsP, ↓vc_seq, xsQ, xsT, xsR, xsD, ↓reduceIte, reduceCtorEq, eq_self, ne_eq, imp_self, forall_const, Nat.reduceEqDiff, Nat.reduceAdd, Nat.reduceSub, Nat.reduceMul, Nat.reduceLT, Nat.reduceLeDiff, Nat.reduceBEq, Nat.reduceDiv, Nat.reduceMod, Int.reduceToNat, Int.reduceNeg, Int.reduceAdd, Int.reduceSub, Int.reduceMul, Int.reduceEq, Int.reduceNe, Int.reduceLT, Int.reduceLE, Int.reduceGT, Int.reduceGE]
      refine call_of (sameAns_spec (W.ws.getD t default).ans a (by omega) _) ?_
      simp -implicitDefEqProofs (maxSteps := 1000000) (disch := omega) only [↓xsP, ↓vc_seq, xsQ, xsT, xsR, xsD, ↓reduceIte, reduceCtorEq, eq_self, ne_eq, imp_self, forall_const, Nat.reduceEqDiff, Nat.reduceAdd, Nat.reduceSub, Nat.reduceMul, Nat.reduceLT, Nat.reduceLeDiff, Nat.reduceBEq, Nat.reduceDiv, Nat.reduceMod, Int.reduceToNat, Int.reduceNeg, Int.reduceAdd, Int.reduceSub, Int.reduceMul, Int.reduceEq, Int.reduceNe, Int.reduceLT, Int.reduceLE, Int.reduceGT, Int.reduceGE]
      refine fin_ok (Mem.le_refl _) ⟨?_, ?_⟩
      · simp
      · exact hend _ _
    | false =>
      simp -implicitDefEqProofs (maxSteps := 1000000) (disch := omega) only [↓xsP, ↓vc_seq, xsQ, xsT, xsR, xsD, ↓reduceIte, reduceCtorEq, eq_self, ne_eq, imp_self, forall_const, Nat.reduceEqDiff, Nat.reduceAdd, Nat.reduceSub, Nat.reduceMul, Nat.reduceLT, Nat.reduceLeDiff, Nat.reduceBEq, Nat.reduceDiv, Nat.reduceMod, Int.reduceToNat, Int.reduceNeg, Int.reduceAdd, Int.reduceSub, Int.reduceMul, Int.reduceEq, Int.reduceNe, Int.reduceLT, Int.reduceLE, Int.reduceGT, Int.reduceGE]
      refine fin_ok (Mem.le_refl _) ⟨?_, ?_⟩
      · simp
      · exact hend _ _
theorem wpairs_spec {B M : Mem} {id mid : Nat} {o : Lf} {W : Wit} (hW : WIn B M id mid o W) (hs : W.s.length ≤ 1000000) : XCalls Go.Proofs.Try.prog 18 [.l (.ptr id 0 0)] M fun r M' => r = .l (.sl (W.s.map Pr.row)) ∧ M' = M := by
  refine xcalls_intro (rs := [.tmp 2]) Go.Proofs.Try.func18 rfl (by kernel_rfl) rfl rfl (by kernel_rfl) (by simp) ?_
  have hM := hW.own
  rw [wB] at hM
  have hd0 : wRow mid o W = .ptr mid 0 0 :: ((W.ws.map Wk.row).flatten ++ [.int .i64 W.calls, o]) := rfl
  simp -implicitDefEqProofs (maxSteps := 1000000) (disch := omega) only [↓xsP, ↓vc_seq, xsQ, xsT, xsR, xsD, ↓reduceIte, reduceCtorEq, eq_self, ne_eq, imp_self, forall_const, Nat.reduceEqDiff, Nat.reduceAdd, Nat.reduceSub, Nat.reduceMul, Nat.reduceLT, Nat.reduceLeDiff, Nat.reduceBEq, Nat.reduceDiv, Nat.reduceMod, Int.reduceToNat, Int.reduceNeg, Int.reduceAdd, Int.reduceSub, Int.reduceMul, Int.reduceEq, Int.reduceNe, Int.reduceLT, Int.reduceLE, Int.reduceGT, Int.reduceGE, hM, hd0]
  refine call_of (pairs_spec W.s (by omega) mid _ hW.map) ?_
  simp -implicitDefEqProofs (maxSteps := 1000000) (disch := omega) only [↓xsP, ↓vc_seq, xsQ, xsT, xsR, xsD, ↓reduceIte, reduceCtorEq, eq_self, ne_eq, imp_self, forall_const, Nat.reduceEqDiff, Nat.reduceAdd, Nat.reduceSub, Nat.reduceMul, Nat.reduceLT, Nat.reduceLeDiff, Nat.reduceBEq, Nat.reduceDiv, Nat.reduceMod, Int.reduceToNat, Int.reduceNeg, Int.reduceAdd, Int.reduceSub, Int.reduceMul, Int.reduceEq, Int.reduceNe, Int.reduceLT, Int.reduceLE, Int.reduceGT, Int.reduceGE]
  exact fin_ok (Mem.le_refl _) ⟨rfl, rfl⟩
theorem clone_im (l : List Int) (hl : l.length ≤ 1000000) (M : Mem) (id : Nat) (hM : M id = some (.cells 3 (l.map irow) 0)) : XCalls Go.Proofs.Try.prog 43 [.l (.ms id 0 l.length)] M fun r M' => r = .l (.sl (l.map irow)) ∧ M' = M := by
  refine xcalls_intro (rs := [.tmp 2]) Go.Proofs.Try.func43 rfl (by kernel_rfl) rfl rfl (by kernel_rfl) (by simp) ?_
  simp -implicitDefEqProofs (maxSteps := 1000000) (disch := omega) only [↓xsP, ↓vc_seq, xsQ, xsT, xsR, xsD, ↓reduceIte, reduceCtorEq, eq_self, ne_eq, imp_self, forall_const, Nat.reduceEqDiff, Nat.reduceAdd, Nat.reduceSub, Nat.reduceMul, Nat.reduceLT, Nat.reduceLeDiff, Nat.reduceBEq, Nat.reduceDiv, Nat.reduceMod, Int.reduceToNat, Int.reduceNeg, Int.reduceAdd, Int.reduceSub, Int.reduceMul, Int.reduceEq, Int.reduceNe, Int.reduceLT, Int.reduceLE, Int.reduceGT, Int.reduceGE]
  rw [eql_nils _ _ _ _ _ (fun k n e => by cases e)]
  simp -implicitDefEqProofs (maxSteps := 1000000) (disch := omega) only [↓xsP, ↓vc_seq, xsQ, xsT, xsR, xsD, ↓reduceIte, reduceCtorEq, eq_self, ne_eq, imp_self, forall_const, Nat.reduceEqDiff, Nat.reduceAdd, Nat.reduceSub, Nat.reduceMul, Nat.reduceLT, Nat.reduceLeDiff, Nat.reduceBEq, Nat.reduceDiv, Nat.reduceMod, Int.reduceToNat, Int.reduceNeg, Int.reduceAdd, Int.reduceSub, Int.reduceMul, Int.reduceEq, Int.reduceNe, Int.reduceLT, Int.reduceLE, Int.reduceGT, Int.reduceGE]
  refine newI_intro fun id1 hid1 => ?_
  have k1 := lt_of_bnd hid1 hM
  simp -implicitDefEqProofs (maxSteps := 1000000) (disch := omega) only [↓xsP, ↓vc_seq, xsQ, xsT, xsR, xsD, ↓reduceIte, reduceCtorEq, eq_self, ne_eq, imp_self, forall_const, Nat.reduceEqDiff, Nat.reduceAdd, Nat.reduceSub, Nat.reduceMul, Nat.reduceLT, Nat.reduceLeDiff, Nat.reduceBEq, Nat.reduceDiv, Nat.reduceMod, Int.reduceToNat, Int.reduceNeg, Int.reduceAdd, Int.reduceSub, Int.reduceMul, Int.reduceEq, Int.reduceNe, Int.reduceLT, Int.reduceLE, Int.reduceGT, Int.reduceGE]
  refine app_ms _ _ _ _ 3 _ _ ti_39 rfl ti_3 (by kernel_rfl) (by decide) id1 0 _ (rows := []) (keep := 0) (l.map irow) (Mem.set_eq _ _ _) ?_ (Nat.le_refl _) (Nat.zero_le _) ?_ ?_ (fun idA hidA => ?_)
  · simp (disch := omega) only [srcRows, Mem.set_ne, hM, if_true]
    rw [if_pos ⟨trivial, by simp⟩]
    simp [List.take_of_length_le]
  · exact Nat.le_trans (Nat.mul_le_mul_right _ (show 0 + (l.map irow).length ≤ 1000001 by simp; omega)) (by decide)
  · simp
    omega
  obtain ⟨k2, hidA⟩ := bnd_new hidA
  simp -implicitDefEqProofs (maxSteps := 1000000) (disch := omega) only [↓xsP, ↓vc_seq, xsQ, xsT, xsR, xsD, ↓reduceIte, reduceCtorEq, eq_self, ne_eq, imp_self, forall_const, Nat.reduceEqDiff, Nat.reduceAdd, Nat.reduceSub, Nat.reduceMul, Nat.reduceLT, Nat.reduceLeDiff, Nat.reduceBEq, Nat.reduceDiv, Nat.reduceMod, Int.reduceToNat, Int.reduceNeg, Int.reduceAdd, Int.reduceSub, Int.reduceMul, Int.reduceEq, Int.reduceNe, Int.reduceLT, Int.reduceLE, Int.reduceGT, Int.reduceGE]
  refine finI_of (XFin.frz idA (Mem.set_eq _ _ _) (XFin.le ?_ ⟨?_, rfl⟩))
  · rw [Mem.set_set]
    refine fun k bk hk => ?_
    have := lt_of_bnd hid1 hk
    have := lt_of_bnd hidA hk
    rw [Mem.set_ne _ _ _ _ (by omega), Mem.del_ne _ _ _ (by omega), Mem.set_ne _ _ _ _ (by omega)]
    exact hk
  · simp [frzA, frz1, frzL, List.take_of_length_le]
theorem clone_in (M : Mem) : XCalls Go.Proofs.Try.prog 43 [.l .nils] M fun r M' => r = .l (.sl []) ∧ M' = M := by
  refine XCalls.wk ?_
  show XCalls Go.Proofs.Try.prog 43 [.l (.sl [])] M _
  refine xcalls_intro (rs := [.tmp 2]) Go.Proofs.Try.func43 rfl (by kernel_rfl) rfl rfl (by kernel_rfl) (by simp) ?_
  simp -implicitDefEqProofs (maxSteps := 1000000) (disch := omega) only [↓xsP, ↓vc_seq, xsQ, xsT, xsR, xsD, ↓reduceIte, reduceCtorEq, eq_self, ne_eq, imp_self, forall_const, Nat.reduceEqDiff, Nat.reduceAdd, Nat.reduceSub, Nat.reduceMul, Nat.reduceLT, Nat.reduceLeDiff, Nat.reduceBEq, Nat.reduceDiv, Nat.reduceMod, Int.reduceToNat, Int.reduceNeg, Int.reduceAdd, Int.reduceSub, Int.reduceMul, Int.reduceEq, Int.reduceNe, Int.reduceLT, Int.reduceLE, Int.reduceGT, Int.reduceGE]
  rw [eql_nils _ _ _ _ _ (fun k n e => by cases e)]
  simp -implicitDefEqProofs (maxSteps := 1000000) (disch := omega) only [↓xsP, ↓vc_seq, xsQ, xsT, xsR, xsD, ↓reduceIte, reduceCtorEq, eq_self, ne_eq, imp_self, forall_const, Nat.reduceEqDiff, Nat.reduceAdd, Nat.reduceSub, Nat.reduceMul, Nat.reduceLT, Nat.reduceLeDiff, Nat.reduceBEq, Nat.reduceDiv, Nat.reduceMod, Int.reduceToNat, Int.reduceNeg, Int.reduceAdd, Int.reduceSub, Int.reduceMul, Int.reduceEq, Int.reduceNe, Int.reduceLT, Int.reduceLE, Int.reduceGT, Int.reduceGE]
  refine nilSI_sl _ (fun he b => ?_) (fun hne => absurd rfl hne)
  cases b with
  | true =>
    simp -implicitDefEqProofs (maxSteps := 1000000) (disch := omega) only [↓xsP, ↓vc_seq, xsQ, xsT, xsR, xsD, ↓reduceIte, reduceCtorEq, eq_self, ne_eq, imp_self, forall_const, Nat.reduceEqDiff, Nat.reduceAdd, Nat.reduceSub, Nat.reduceMul, Nat.reduceLT, Nat.reduceLeDiff, Nat.reduceBEq, Nat.reduceDiv, Nat.reduceMod, Int.reduceToNat, Int.reduceNeg, Int.reduceAdd, Int.reduceSub, Int.reduceMul, Int.reduceEq, Int.reduceNe, Int.reduceLT, Int.reduceLE, Int.reduceGT, Int.reduceGE]
    exact finI_of (XFin.wk (XFin.here ⟨rfl, rfl⟩))
  | false =>
    simp -implicitDefEqProofs (maxSteps := 1000000) (disch := omega) only [↓xsP, ↓vc_seq, xsQ, xsT, xsR, xsD, ↓reduceIte, reduceCtorEq, eq_self, ne_eq, imp_self, forall_const, Nat.reduceEqDiff, Nat.reduceAdd, Nat.reduceSub, Nat.reduceMul, Nat.reduceLT, Nat.reduceLeDiff, Nat.reduceBEq, Nat.reduceDiv, Nat.reduceMod, Int.reduceToNat, Int.reduceNeg, Int.reduceAdd, Int.reduceSub, Int.reduceMul, Int.reduceEq, Int.reduceNe, Int.reduceLT, Int.reduceLE, Int.reduceGT, Int.reduceGE]
    refine newI_intro fun id1 hid1 => ?_
    simp -implicitDefEqProofs (maxSteps := 1000000) (disch := omega) only [↓xsP, ↓vc_seq, xsQ, xsT, xsR, xsD, ↓reduceIte, reduceCtorEq, eq_self, ne_eq, imp_self, forall_const, Nat.reduceEqDiff, Nat.reduceAdd, Nat.reduceSub, Nat.reduceMul, Nat.reduceLT, Nat.reduceLeDiff, Nat.reduceBEq, Nat.reduceDiv, Nat.reduceMod, Int.reduceToNat, Int.reduceNeg, Int.reduceAdd, Int.reduceSub, Int.reduceMul, Int.reduceEq, Int.reduceNe, Int.reduceLT, Int.reduceLE, Int.reduceGT, Int.reduceGE]
    refine app_ms _ _ _ _ 3 _ _ ti_39 rfl ti_3 (by kernel_rfl) (by decide) id1 0 _ (rows := []) (keep := 0) [] (Mem.set_eq _ _ _) ?_ (Nat.le_refl _) (Nat.zero_le _) ?_ ?_ (fun idA hidA => ?_)
    · simp -implicitDefEqProofs (maxSteps := 1000000) (disch := omega) only [↓xsP, ↓vc_seq, xsQ, xsT, xsR, xsD, ↓reduceIte, reduceCtorEq, eq_self, ne_eq, imp_self, forall_const, Nat.reduceEqDiff, Nat.reduceAdd, Nat.reduceSub, Nat.reduceMul, Nat.reduceLT, Nat.reduceLeDiff, Nat.reduceBEq, Nat.reduceDiv, Nat.reduceMod, Int.reduceToNat, Int.reduceNeg, Int.reduceAdd, Int.reduceSub, Int.reduceMul, Int.reduceEq, Int.reduceNe, Int.reduceLT, Int.reduceLE, Int.reduceGT, Int.reduceGE]
      rw [if_pos (by simp)]
    · simp
    · simp
    obtain ⟨k2, hidA⟩ := bnd_new hidA
    simp -implicitDefEqProofs (maxSteps := 1000000) (disch := omega) only [↓xsP, ↓vc_seq, xsQ, xsT, xsR, xsD, ↓reduceIte, reduceCtorEq, eq_self, ne_eq, imp_self, forall_const, Nat.reduceEqDiff, Nat.reduceAdd, Nat.reduceSub, Nat.reduceMul, Nat.reduceLT, Nat.reduceLeDiff, Nat.reduceBEq, Nat.reduceDiv, Nat.reduceMod, Int.reduceToNat, Int.reduceNeg, Int.reduceAdd, Int.reduceSub, Int.reduceMul, Int.reduceEq, Int.reduceNe, Int.reduceLT, Int.reduceLE, Int.reduceGT, Int.reduceGE]
    refine finI_of (XFin.frz idA (Mem.set_eq _ _ _) (XFin.le ?_ ⟨?_, rfl⟩))
    · rw [Mem.set_set]
      refine fun k bk hk => ?_
      have := lt_of_bnd hid1 hk
      rw [Mem.set_ne _ _ _ _ (by omega), Mem.del_ne _ _ _ (by omega), Mem.set_ne _ _ _ _ (by omega)]
      exact hk
    · simp [frzA, frz1, frzL]
theorem worder_spec {B M : Mem} {id mid : Nat} {o : Lf} {W : Wit} (hW : WIn B M id mid o W) (hs : W.ord.length ≤ 1000000) : XCalls Go.Proofs.Try.prog 17 [.l (.ptr id 0 0)] M fun r M' => r = .l (.sl (W.ord.map irow)) ∧ M' = M := by
  refine xcalls_intro (rs := [.tmp 2]) Go.Proofs.Try.func17 rfl (by kernel_rfl) rfl rfl (by kernel_rfl) (by simp) ?_
  have hM := hW.own
  rw [wB] at hM
  have htl := w_tail (W := W) (mid := mid) (o := o) hW.six
  have hd80 : (wRow mid o W).drop 80 = [o] := by rw [show 80 = 79 + 1 from rfl, ← List.drop_drop, htl]; rfl
  simp -implicitDefEqProofs (maxSteps := 1000000) (disch := omega) only [↓xsP, ↓vc_seq, xsQ, xsT, xsR, xsD, ↓reduceIte, reduceCtorEq, eq_self, ne_eq, imp_self, forall_const, Nat.reduceEqDiff, Nat.reduceAdd, Nat.reduceSub, Nat.reduceMul, Nat.reduceLT, Nat.reduceLeDiff, Nat.reduceBEq, Nat.reduceDiv, Nat.reduceMod, Int.reduceToNat, Int.reduceNeg, Int.reduceAdd, Int.reduceSub, Int.reduceMul, Int.reduceEq, Int.reduceNe, Int.reduceLT, Int.reduceLE, Int.reduceGT, Int.reduceGE, hM, hd80]
  rcases hW.ord with ⟨h1, rfl⟩ | ⟨idO, a1, a2, a3, rfl, a5⟩
  · refine call_of (clone_in _) ?_
    simp -implicitDefEqProofs (maxSteps := 1000000) (disch := omega) only [↓xsP, ↓vc_seq, xsQ, xsT, xsR, xsD, ↓reduceIte, reduceCtorEq, eq_self, ne_eq, imp_self, forall_const, Nat.reduceEqDiff, Nat.reduceAdd, Nat.reduceSub, Nat.reduceMul, Nat.reduceLT, Nat.reduceLeDiff, Nat.reduceBEq, Nat.reduceDiv, Nat.reduceMod, Int.reduceToNat, Int.reduceNeg, Int.reduceAdd, Int.reduceSub, Int.reduceMul, Int.reduceEq, Int.reduceNe, Int.reduceLT, Int.reduceLE, Int.reduceGT, Int.reduceGE]
    exact fin_ok (Mem.le_refl _) ⟨by rw [h1]; rfl, rfl⟩
  · refine call_of (clone_im W.ord hs _ idO a5) ?_
    simp -implicitDefEqProofs (maxSteps := 1000000) (disch := omega) only [↓xsP, ↓vc_seq, xsQ, xsT, xsR, xsD, ↓reduceIte, reduceCtorEq, eq_self, ne_eq, imp_self, forall_const, Nat.reduceEqDiff, Nat.reduceAdd, Nat.reduceSub, Nat.reduceMul, Nat.reduceLT, Nat.reduceLeDiff, Nat.reduceBEq, Nat.reduceDiv, Nat.reduceMod, Int.reduceToNat, Int.reduceNeg, Int.reduceAdd, Int.reduceSub, Int.reduceMul, Int.reduceEq, Int.reduceNe, Int.reduceLT, Int.reduceLE, Int.reduceGT, Int.reduceGE]
    exact fin_ok (Mem.le_refl _) ⟨rfl, rfl⟩
end Go.X
set_option linter.unusedVariables false
set_option linter.unusedSimpArgs false
set_option maxHeartbeats 20000000
set_option maxRecDepth 100000
namespace Go.X
open Go.Proofs.Try (prog)

/-- A witness's row, of works as they stand. -/
def gRow (mid : Nat) (o : Lf) (c : Nat) (rs : List (List Lf)) : List Lf := .ptr mid 0 0 :: (rs.flatten ++ [.int .i64 c, o])
theorem g_of (mid : Nat) (o : Lf) (W : Wit) : wRow mid o W = gRow mid o W.calls (W.ws.map Wk.row) := rfl
theorem gw_put {r : List Lf} {j : Nat} {xs : List Lf} : ∀ (rs : List (List Lf)) (t : Nat), (∀ x ∈ rs, x.length = 13) → t < rs.length → j + xs.length ≤ 13 →
    (rs.flatten ++ r).take (t * 13 + j) ++ xs ++ (rs.flatten ++ r).drop (t * 13 + j + xs.length) = (rs.set t ((rs.getD t default).take j ++ xs ++ (rs.getD t default).drop (j + xs.length))).flatten ++ r
  | [], t, _, ht, _ => by simp at ht
  | x :: rs, 0, h13, _, hj => by
    have hx := h13 x (by simp)
    simp only [Nat.zero_mul, Nat.zero_add, List.flatten_cons, List.append_assoc, List.set_cons_zero, List.getD_cons_zero]
    rw [List.take_append_of_le_length (by omega), List.drop_append_of_le_length (by omega)]
  | x :: rs, t + 1, h13, ht, hj => by
    have hx := h13 x (by simp)
    have ih := gw_put (r := r) (j := j) (xs := xs) rs t (fun y hy => h13 y (by simp [hy])) (by simpa using ht) hj
    have e1 : (t + 1) * 13 + j = x.length + (t * 13 + j) := by omega
    have e2 : (t + 1) * 13 + j + xs.length = x.length + (t * 13 + j + xs.length) := by omega
    rw [e1, show x.length + (t * 13 + j) + xs.length = x.length + (t * 13 + j + xs.length) by omega]
    simp only [List.flatten_cons, List.append_assoc, List.set_cons_succ, List.getD_cons_succ]
    rw [List.take_length_add_append, List.drop_length_add_append]
    simp only [List.append_assoc] at ih ⊢
    rw [ih]
theorem g_put {mid : Nat} {o : Lf} {c t j : Nat} {xs : List Lf} {rs : List (List Lf)} (h13 : ∀ x ∈ rs, x.length = 13) (ht : t < rs.length) (hj : j + xs.length ≤ 13) :
    (gRow mid o c rs).take (1 + t * 13 + j) ++ xs ++ (gRow mid o c rs).drop (1 + t * 13 + j + xs.length) = gRow mid o c (rs.set t ((rs.getD t default).take j ++ xs ++ (rs.getD t default).drop (j + xs.length))) := by
  have := gw_put (r := [.int .i64 c, o]) (j := j) (xs := xs) rs t h13 ht hj
  rw [gRow, gRow, show 1 + t * 13 + j = (t * 13 + j) + 1 by omega, List.take_succ_cons, show t * 13 + j + 1 + xs.length = (t * 13 + j + xs.length) + 1 by omega, List.drop_succ_cons, List.cons_append, List.cons_append, this]
theorem gw_drop : ∀ (rs : List (List Lf)) (t : Nat) (r : List Lf), (∀ x ∈ rs, x.length = 13) → t < rs.length → (rs.flatten ++ r).drop (t * 13) = rs.getD t default ++ (rs.flatten ++ r).drop (t * 13 + 13)
  | [], t, r, _, ht => by simp at ht
  | x :: rs, 0, r, h13, _ => by
    have hx := h13 x (by simp)
    simp only [Nat.zero_mul, Nat.zero_add, List.drop_zero, List.flatten_cons, List.append_assoc, List.getD_cons_zero]
    rw [← hx, List.drop_left]
  | x :: rs, t + 1, r, h13, ht => by
    have hx := h13 x (by simp)
    have ih := gw_drop rs t r (fun y hy => h13 y (by simp [hy])) (by simpa using ht)
    rw [show (t + 1) * 13 = x.length + t * 13 by omega, show x.length + t * 13 + 13 = x.length + (t * 13 + 13) by omega]
    simp only [List.flatten_cons, List.append_assoc, List.getD_cons_succ]
    rw [List.drop_length_add_append, List.drop_length_add_append, ih]
theorem g_drop {mid : Nat} {o : Lf} {c t : Nat} {rs : List (List Lf)} (h13 : ∀ x ∈ rs, x.length = 13) (ht : t < rs.length) (j : Nat) : (gRow mid o c rs).drop (1 + t * 13 + j) = (rs.getD t default ++ (gRow mid o c rs).drop (1 + t * 13 + 13)).drop j := by
  have : (gRow mid o c rs).drop (1 + t * 13) = rs.getD t default ++ (gRow mid o c rs).drop (1 + t * 13 + 13) := by
    rw [gRow, show 1 + t * 13 = (t * 13) + 1 by omega, List.drop_succ_cons, gw_drop rs t _ h13 ht, show t * 13 + 1 + 13 = (t * 13 + 13) + 1 by omega, List.drop_succ_cons]
  rw [← this, List.drop_drop]
theorem g_len {mid : Nat} {o : Lf} {c : Nat} : ∀ {rs : List (List Lf)}, (∀ x ∈ rs, x.length = 13) → (gRow mid o c rs).length = 13 * rs.length + 3 := by
  intro rs h13
  have : ∀ (rs : List (List Lf)), (∀ x ∈ rs, x.length = 13) → rs.flatten.length = 13 * rs.length := by
    intro rs
    induction rs with
    | nil => intro _; rfl
    | cons x rs ih =>
      intro h
      rw [List.flatten_cons, List.length_append, ih (fun y hy => h y (by simp [hy])), h x (by simp), List.length_cons]
      omega
  rw [gRow, List.length_cons, List.length_append, this rs h13]
  rfl
theorem w_ord {W : Wit} {mid : Nat} {o o' : Lf} (h : W.ws.length = 6) : (wRow mid o W).take 80 ++ [o'] ++ (wRow mid o W).drop 81 = wRow mid o' W := by
  have h1 : (wRow mid o W).take 80 = .ptr mid 0 0 :: ((W.ws.map Wk.row).flatten ++ [.int .i64 W.calls]) := by
    rw [wRow, show 80 = 79 + 1 from rfl, List.take_succ_cons, List.take_append, works_len, h, List.take_of_length_le (by rw [works_len, h]; decide)]
    rfl
  have h2 : (wRow mid o W).drop 81 = [] := List.drop_of_length_le (by rw [w_len h]; decide)
  rw [h1, h2, wRow]
  simp
theorem wapp_nilG {P : Program} {M : Mem} {nid : Nat} {t tx e : TypeId} {ti te : TI} (hti : tiOf P t = some ti) (hd : ti.d = .slice e) (hte : tiOf P e = some te) (hz : zeroFits P e = true) (hpos : 0 < te.size) {x : AV} (src : List (List Lf)) (hsrc : srcRows P M t tx e te x = some src) (hne : src ≠ [])
    (hb : src.length * te.bytes ≤ 140737488355328) (hb' : src.length ≤ 140737488355328) {C : AV → Eff → Prop} (h : C (.l (.ms nid 0 src.length)) [(nid, some (.cells e src 0))]) : @wappI P M nid t tx (.l .nils) x ⟨C⟩ := by
  show wapp P M nid t tx (.l .nils) x C
  unfold wapp
  simp only [hti, hd, hte, hsrc, optK]
  exact ⟨hz, hpos, fun h => absurd h hne, fun _ => ⟨hb, hb', h⟩⟩
def canTook (W : Wit) (t : Nat) : Bool := (W.ws.getD t default).busy && !(W.ws.getD t default).took
noncomputable def tookW (W : Wit) (t : Nat) : Wit :=
  { W with s := doL W.s (W.ws.getD t default).op, ws := W.ws.set t { W.ws.getD t default with took := true, ans := doA W.s (W.ws.getD t default).op }, ord := W.ord ++ [(W.ws.getD t default).call] }
theorem took_out (id : Nat) (t : Int) (M : Mem) (h : t < 0 ∨ 6 ≤ t) : XCalls Go.Proofs.Try.prog 15 [.l (.ptr id 0 0), .l (.int .i64 t)] M fun r M' => r = .l (.bool false) ∧ M' = M := by
  refine xcalls_intro (rs := [.tmp 4]) Go.Proofs.Try.func15 rfl (by kernel_rfl) rfl rfl (by kernel_rfl) (by simp) ?_
  simp -implicitDefEqProofs (maxSteps := 1000000) (disch := omega) only [↓xsP, ↓vc_seq, xsQ, xsT, xsR, xsD, ↓reduceIte, reduceCtorEq, eq_self, ne_eq, imp_self, forall_const, Nat.reduceEqDiff, Nat.reduceAdd, Nat.reduceSub, Nat.reduceMul, Nat.reduceLT, Nat.reduceLeDiff, Nat.reduceBEq, Nat.reduceDiv, Nat.reduceMod, Int.reduceToNat, Int.reduceNeg, Int.reduceAdd, Int.reduceSub, Int.reduceMul, Int.reduceEq, Int.reduceNe, Int.reduceLT, Int.reduceLE, Int.reduceGT, Int.reduceGE]
  refine call_of (busy_out _ t _ h) ?_
  simp -implicitDefEqProofs (maxSteps := 1000000) (disch := omega) only [↓xsP, ↓vc_seq, xsQ, xsT, xsR, xsD, ↓reduceIte, reduceCtorEq, eq_self, ne_eq, imp_self, forall_const, Nat.reduceEqDiff, Nat.reduceAdd, Nat.reduceSub, Nat.reduceMul, Nat.reduceLT, Nat.reduceLeDiff, Nat.reduceBEq, Nat.reduceDiv, Nat.reduceMod, Int.reduceToNat, Int.reduceNeg, Int.reduceAdd, Int.reduceSub, Int.reduceMul, Int.reduceEq, Int.reduceNe, Int.reduceLT, Int.reduceLE, Int.reduceGT, Int.reduceGE]
  exact fin_ok (Mem.le_refl _) ⟨rfl, rfl⟩
theorem took_in {B M : Mem} {id mid : Nat} {o : Lf} {W : Wit} (hW : WIn B M id mid o W) (t : Nat) (ht : t < 6) (hs : W.s.length ≤ 1000000) (hor : W.ord.length ≤ 1000) :
    XCalls Go.Proofs.Try.prog 15 [.l (.ptr id 0 0), .l (.int .i64 t)] M fun r M' => r = .l (.bool (canTook W t)) ∧ ∃ o', WIn B M' id mid o' (if canTook W t = true then tookW W t else W) := by
  refine xcalls_intro (rs := [.tmp 4]) Go.Proofs.Try.func15 rfl (by kernel_rfl) rfl rfl (by kernel_rfl) (by simp) ?_
  have hM := hW.own
  rw [wB] at hM
  have ht6 : t < W.ws.length := by have := hW.six; omega
  have hd := w_drop (W := W) (mid := mid) (o := o) ht6
  have hln := w_len (W := W) (mid := mid) (o := o) hW.six
  rw [row_wk] at hd
  simp -implicitDefEqProofs (maxSteps := 1000000) (disch := omega) only [↓xsP, ↓vc_seq, xsQ, xsT, xsR, xsD, ↓reduceIte, reduceCtorEq, eq_self, ne_eq, imp_self, forall_const, Nat.reduceEqDiff, Nat.reduceAdd, Nat.reduceSub, Nat.reduceMul, Nat.reduceLT, Nat.reduceLeDiff, Nat.reduceBEq, Nat.reduceDiv, Nat.reduceMod, Int.reduceToNat, Int.reduceNeg, Int.reduceAdd, Int.reduceSub, Int.reduceMul, Int.reduceEq, Int.reduceNe, Int.reduceLT, Int.reduceLE, Int.reduceGT, Int.reduceGE]
  refine call_of (busy_in hW t ht) ?_
  rw [canTook]
  cases hb : (W.ws.getD t default).busy with
  | false =>
    simp -implicitDefEqProofs (maxSteps := 1000000) (disch := omega) only [↓xsP, ↓vc_seq, xsQ, xsT, xsR, xsD, ↓reduceIte, reduceCtorEq, eq_self, ne_eq, imp_self, forall_const, Nat.reduceEqDiff, Nat.reduceAdd, Nat.reduceSub, Nat.reduceMul, Nat.reduceLT, Nat.reduceLeDiff, Nat.reduceBEq, Nat.reduceDiv, Nat.reduceMod, Int.reduceToNat, Int.reduceNeg, Int.reduceAdd, Int.reduceSub, Int.reduceMul, Int.reduceEq, Int.reduceNe, Int.reduceLT, Int.reduceLE, Int.reduceGT, Int.reduceGE]
    refine fin_ok (Mem.le_refl _) ⟨rfl, o, ?_⟩
    simpa using hW
  | true =>
    simp -implicitDefEqProofs (maxSteps := 1000000) (disch := omega) only [↓xsP, ↓vc_seq, xsQ, xsT, xsR, xsD, ↓reduceIte, reduceCtorEq, eq_self, ne_eq, imp_self, forall_const, Nat.reduceEqDiff, Nat.reduceAdd, Nat.reduceSub, Nat.reduceMul, Nat.reduceLT, Nat.reduceLeDiff, Nat.reduceBEq, Nat.reduceDiv, Nat.reduceMod, Int.reduceToNat, Int.reduceNeg, Int.reduceAdd, Int.reduceSub, Int.reduceMul, Int.reduceEq, Int.reduceNe, Int.reduceLT, Int.reduceLE, Int.reduceGT, Int.reduceGE]
    rw [if_pos ⟨by omega, by omega⟩]
    have hd6 : (wRow mid o W).drop (1 + t * 13 + 6) = ((W.ws.getD t default).row ++ (wRow mid o W).drop (1 + t * 13 + 13)).drop 6 := by
      rw [← w_drop ht6, List.drop_drop]
    rw [row_wk] at hd6
    simp -implicitDefEqProofs (maxSteps := 1000000) (disch := omega) only [↓xsP, ↓vc_seq, xsQ, xsT, xsR, xsD, ↓reduceIte, reduceCtorEq, eq_self, ne_eq, imp_self, forall_const, Nat.reduceEqDiff, Nat.reduceAdd, Nat.reduceSub, Nat.reduceMul, Nat.reduceLT, Nat.reduceLeDiff, Nat.reduceBEq, Nat.reduceDiv, Nat.reduceMod, Int.reduceToNat, Int.reduceNeg, Int.reduceAdd, Int.reduceSub, Int.reduceMul, Int.reduceEq, Int.reduceNe, Int.reduceLT, Int.reduceLE, Int.reduceGT, Int.reduceGE, hM, hd6]
    cases htk : (W.ws.getD t default).took with
    | true =>
      simp -implicitDefEqProofs (maxSteps := 1000000) (disch := omega) only [↓xsP, ↓vc_seq, xsQ, xsT, xsR, xsD, ↓reduceIte, reduceCtorEq, eq_self, ne_eq, imp_self, forall_const, Nat.reduceEqDiff, Nat.reduceAdd, Nat.reduceSub, Nat.reduceMul, Nat.reduceLT, Nat.reduceLeDiff, Nat.reduceBEq, Nat.reduceDiv, Nat.reduceMod, Int.reduceToNat, Int.reduceNeg, Int.reduceAdd, Int.reduceSub, Int.reduceMul, Int.reduceEq, Int.reduceNe, Int.reduceLT, Int.reduceLE, Int.reduceGT, Int.reduceGE]
      refine fin_ok (Mem.le_refl _) ⟨rfl, o, ?_⟩
      simpa using hW
    | false =>
      simp -implicitDefEqProofs (maxSteps := 1000000) (disch := omega) only [↓xsP, ↓vc_seq, xsQ, xsT, xsR, xsD, ↓reduceIte, reduceCtorEq, eq_self, ne_eq, imp_self, forall_const, Nat.reduceEqDiff, Nat.reduceAdd, Nat.reduceSub, Nat.reduceMul, Nat.reduceLT, Nat.reduceLeDiff, Nat.reduceBEq, Nat.reduceDiv, Nat.reduceMod, Int.reduceToNat, Int.reduceNeg, Int.reduceAdd, Int.reduceSub, Int.reduceMul, Int.reduceEq, Int.reduceNe, Int.reduceLT, Int.reduceLE, Int.reduceGT, Int.reduceGE]
      rw [if_pos ⟨by omega, by omega⟩]
      have hle1 : (1 + t * 13 + 6 + 1 ≤ 81) = True := eq_true (by omega)
      simp -implicitDefEqProofs (maxSteps := 1000000) (disch := omega) only [↓xsP, ↓vc_seq, xsQ, xsT, xsR, xsD, ↓reduceIte, reduceCtorEq, eq_self, ne_eq, imp_self, forall_const, Nat.reduceEqDiff, Nat.reduceAdd, Nat.reduceSub, Nat.reduceMul, Nat.reduceLT, Nat.reduceLeDiff, Nat.reduceBEq, Nat.reduceDiv, Nat.reduceMod, Int.reduceToNat, Int.reduceNeg, Int.reduceAdd, Int.reduceSub, Int.reduceMul, Int.reduceEq, Int.reduceNe, Int.reduceLT, Int.reduceLE, Int.reduceGT, Int.reduceGE, hM, hd6, hln, hle1]
      have hmid := hW.map
      have hne := hW.ne
      refine xwrite (fun n0 => [ (9, mid), (12, id)]) [9, 12] [] [[9], [], [], [], [], [], [], [], [], [], [], [], []] (by kernel_rfl) (by kernel_rfl) (by kernel_rfl) (by kernel_rfl) (fun n0 hn0 => ⟨rfl, ?_, ?_⟩)
      · exact TOk_cons (.inl (lt_of_bnd hn0 (by rw [Mem.set_ne _ _ _ _ (by omega)]; exact hmid))) (TOk_cons (.inl (lt_of_bnd hn0 (Mem.set_eq _ id _))) (TOk_nil _ _))
      · have k0 := lt_of_bnd hn0 (Mem.set_eq _ id _)
        have k1 : mid < n0 := lt_of_bnd hn0 (by rw [Mem.set_ne _ _ _ _ (by omega)]; exact hmid)
        simp -implicitDefEqProofs (maxSteps := 1000000) (disch := omega) only [↓xsP, ↓vc_seq, xsQ, xsT, xsR, xsD, ↓reduceIte, reduceCtorEq, eq_self, ne_eq, imp_self, forall_const, Nat.reduceEqDiff, Nat.reduceAdd, Nat.reduceSub, Nat.reduceMul, Nat.reduceLT, Nat.reduceLeDiff, Nat.reduceBEq, Nat.reduceDiv, Nat.reduceMod, Int.reduceToNat, Int.reduceNeg, Int.reduceAdd, Int.reduceSub, Int.reduceMul, Int.reduceEq, Int.reduceNe, Int.reduceLT, Int.reduceLE, Int.reduceGT, Int.reduceGE, hM, hd6, hln, hle1]
        obtain ⟨w, hw⟩ : ∃ w, W.ws.getD t default = w := ⟨_, rfl⟩
        obtain ⟨rs, hrs⟩ : ∃ rs, rs = W.ws.map Wk.row := ⟨_, rfl⟩
        have hr6 : rs.length = 6 := by rw [hrs, List.length_map]; exact hW.six
        have hr13 : ∀ x ∈ rs, x.length = 13 := fun x hx => by
          rw [hrs] at hx
          obtain ⟨y, _, rfl⟩ := List.mem_map.1 hx
          rfl
        have hrt : rs.getD t default = w.row := by
          rw [hrs, List.getD_eq_getElem?_getD, List.getElem?_map, List.getElem?_eq_getElem ht6, ← hw, List.getD_eq_getElem?_getD, List.getElem?_eq_getElem ht6]
          rfl
        rw [hw] at hb htk
        rw [row_wk, hb, htk] at hrt
        simp only [Bool.false_eq_true, if_false] at hrt
        obtain ⟨r1, hr1⟩ : ∃ r1 : List Lf, r1 = [.bool true, .int .i64 w.op.kind, .int .i64 w.op.key, .int .i64 w.op.to, .int .i64 w.op.val, .int .i64 w.call, .bool true, .int .i64 w.ans.err, .bool w.ans.ok, .int .i64 w.ans.pair.key, .int .i64 w.ans.pair.val, .int .i64 w.ans.n, .nils] := ⟨_, rfl⟩
        have hput1 := g_put (mid := mid) (o := o) (c := W.calls) (t := t) (j := 6) (xs := [.bool true]) hr13 (by omega) (by decide)
        rw [hrt, show ([.bool true, .int .i64 w.op.kind, .int .i64 w.op.key, .int .i64 w.op.to, .int .i64 w.op.val, .int .i64 w.call, .bool false, .int .i64 w.ans.err, .bool w.ans.ok, .int .i64 w.ans.pair.key, .int .i64 w.ans.pair.val, .int .i64 w.ans.n, .nils] : List Lf).take 6 ++ [.bool true] ++ ([.bool true, .int .i64 w.op.kind, .int .i64 w.op.key, .int .i64 w.op.to, .int .i64 w.op.val, .int .i64 w.call, .bool false, .int .i64 w.ans.err, .bool w.ans.ok, .int .i64 w.ans.pair.key, .int .i64 w.ans.pair.val, .int .i64 w.ans.n, .nils] : List Lf).drop (6 + ([.bool true] : List Lf).length) = r1 from by rw [hr1]; rfl] at hput1
        rw [show wRow mid o W = gRow mid o W.calls rs by rw [hrs, g_of]]
        rw [show 1 + t * 13 + 6 + 1 = 1 + t * 13 + 6 + ([.bool true] : List Lf).length from rfl, hput1]
        obtain ⟨rs1, hrs1⟩ : ∃ rs1, rs1 = rs.set t r1 := ⟨_, rfl⟩
        have h16 : rs1.length = 6 := by rw [hrs1]; simpa using hr6
        have h113 : ∀ x ∈ rs1, x.length = 13 := fun x hx => by
          rw [hrs1] at hx
          rcases List.mem_or_eq_of_mem_set hx with hx | rfl
          · exact hr13 _ hx
          · rw [hr1]; rfl
        have h1t : rs1.getD t default = r1 := by rw [hrs1, getD_set _ _ _ _ _ (by omega), if_pos rfl]
        have hg1 := fun j => g_drop (mid := mid) (o := o) (c := W.calls) h113 (show t < rs1.length by omega) j
        rw [h1t, hr1] at hg1
        have hl1 := g_len (mid := mid) (o := o) (c := W.calls) h113
        rw [h16] at hl1
        rw [← hrs1]
        have hp0 : packV false 1 (gRow mid o W.calls rs1) = some (.l (.ptr mid 0 0)) := rfl
        have hg11 := hg1 1
        have hg15 := hg1 5
        simp only [List.cons_append, List.nil_append, List.drop_succ_cons, List.drop_zero] at hg11 hg15
        simp -implicitDefEqProofs (maxSteps := 1000000) (disch := omega) only [↓xsP, ↓vc_seq, xsQ, xsT, xsR, xsD, ↓reduceIte, reduceCtorEq, eq_self, ne_eq, imp_self, forall_const, Nat.reduceEqDiff, Nat.reduceAdd, Nat.reduceSub, Nat.reduceMul, Nat.reduceLT, Nat.reduceLeDiff, Nat.reduceBEq, Nat.reduceDiv, Nat.reduceMod, Int.reduceToNat, Int.reduceNeg, Int.reduceAdd, Int.reduceSub, Int.reduceMul, Int.reduceEq, Int.reduceNe, Int.reduceLT, Int.reduceLE, Int.reduceGT, Int.reduceGE, hp0, hg11]
        refine ⟨.agg (doA W.s w.op).row, [(mid, some (mapB (doL W.s w.op)))], fun M' hle => (modelDo_spec W.s (by omega) w.op mid M' (hle _ _ (by rw [Mem.set_ne _ _ _ _ (by omega)]; exact hmid))).mono ?_, ?_⟩
        · rintro _ _ ⟨rfl, rfl⟩
          exact ⟨rfl, Mem.le_refl _⟩
        have hle2 : (1 + t * 13 + 7 + 6 ≤ 13 * 6 + 3) = True := eq_true (by omega)
        simp -implicitDefEqProofs (maxSteps := 1000000) (disch := omega) only [↓xsP, ↓vc_seq, xsQ, xsT, xsR, xsD, ↓reduceIte, reduceCtorEq, eq_self, ne_eq, imp_self, forall_const, Nat.reduceEqDiff, Nat.reduceAdd, Nat.reduceSub, Nat.reduceMul, Nat.reduceLT, Nat.reduceLeDiff, Nat.reduceBEq, Nat.reduceDiv, Nat.reduceMod, Int.reduceToNat, Int.reduceNeg, Int.reduceAdd, Int.reduceSub, Int.reduceMul, Int.reduceEq, Int.reduceNe, Int.reduceLT, Int.reduceLE, Int.reduceGT, Int.reduceGE, hl1, hle2]
        obtain ⟨nw, hnw⟩ : ∃ nw : Wk, nw = { w with took := true, ans := doA W.s w.op } := ⟨_, rfl⟩
        obtain ⟨V, hV⟩ : ∃ V : Wit, V = { W with ws := W.ws.set t nw } := ⟨_, rfl⟩
        have hput2 := g_put (mid := mid) (o := o) (c := W.calls) (t := t) (j := 7) (xs := (doA W.s w.op).row) h113 (by omega) (by show 7 + 6 ≤ 13; decide)
        rw [h1t, hr1, hrs1, List.set_set] at hput2
        have hfold : rs.set t (([.bool true, .int .i64 w.op.kind, .int .i64 w.op.key, .int .i64 w.op.to, .int .i64 w.op.val, .int .i64 w.call, .bool true, .int .i64 w.ans.err, .bool w.ans.ok, .int .i64 w.ans.pair.key, .int .i64 w.ans.pair.val, .int .i64 w.ans.n, .nils] : List Lf).take 7 ++ (doA W.s w.op).row ++ ([.bool true, .int .i64 w.op.kind, .int .i64 w.op.key, .int .i64 w.op.to, .int .i64 w.op.val, .int .i64 w.call, .bool true, .int .i64 w.ans.err, .bool w.ans.ok, .int .i64 w.ans.pair.key, .int .i64 w.ans.pair.val, .int .i64 w.ans.n, .nils] : List Lf).drop (7 + (doA W.s w.op).row.length)) = V.ws.map Wk.row := by
          rw [hV, List.map_set, hrs]
          congr 1
          rw [hnw, row_wk, hb]
          rfl
        rw [hfold, ← hrs1, row_ans] at hput2
        have hV6 : V.ws.length = 6 := by rw [hV]; simpa using hW.six
        have hVc : V.calls = W.calls := by rw [hV]
        rw [show 1 + t * 13 + 7 + 6 = 1 + t * 13 + 7 + ([.int .i64 (doA W.s w.op).err, .bool (doA W.s w.op).ok, .int .i64 (doA W.s w.op).pair.key, .int .i64 (doA W.s w.op).pair.val, .int .i64 (doA W.s w.op).n, .sl ((doA W.s w.op).pairs.map Pr.row)] : List Lf).length from rfl, hput2, ← hVc, ← g_of]
        have key : ∀ (X Y Z : Blk) (N : Mem), ((M.set id X).set mid Y).set id Z = N → N id = some Z ∧ N mid = some Y ∧ ∀ k bk, k ≠ id → k ≠ mid → M k = some bk → N k = some bk := by
          rintro X Y Z N rfl
          refine ⟨Mem.set_eq _ _ _, by rw [Mem.set_ne _ _ _ _ (by omega), Mem.set_eq], fun k bk h1 h2 h => ?_⟩
          rw [Mem.set_ne _ _ _ _ (fun e => h1 e.symm), Mem.set_ne _ _ _ _ (fun e => h2 e.symm), Mem.set_ne _ _ _ _ (fun e => h1 e.symm)]
          exact h
        generalize hN : Mem.set (Mem.set (Mem.set M _ _) _ _) _ _ = N
        obtain ⟨hNi, hNm, hNo⟩ := key _ _ _ _ hN
        clear key hN
        have hcan : (true && !false) = true := rfl
        have htk2 : tookW W t = { V with s := doL W.s w.op, ord := W.ord ++ [w.call] } := by rw [tookW, hw, hV, hnw]
        have hB : B.le N := fun k bk hk => hNo _ _ (fun e => by rw [e, hW.nid] at hk; cases hk) (fun e => by rw [e, hW.nmid] at hk; cases hk) (hW.le _ _ hk)
        have hVt : V.ws.getD t default = nw := by rw [hV]; exact (getD_set _ _ _ _ _ ht6).trans (if_pos rfl)
        have hd5 : (wRow mid o V).drop (1 + t * 13 + 5) = ((V.ws.getD t default).row ++ (wRow mid o V).drop (1 + t * 13 + 13)).drop 5 := by
          rw [← w_drop (by omega), List.drop_drop]
        rw [hVt, row_wk, hnw] at hd5
        simp only [List.cons_append, List.nil_append, List.drop_succ_cons, List.drop_zero] at hd5
        have htl := w_tail (W := V) (mid := mid) (o := o) hV6
        have hd80 : (wRow mid o V).drop 80 = [o] := by rw [show 80 = 79 + 1 from rfl, ← List.drop_drop, htl]; rfl
        have hlnV := w_len (W := V) (mid := mid) (o := o) hV6
        rcases hW.ord with ⟨q1, rfl⟩ | ⟨idO, q1, q2, q3, rfl, q5⟩
        · refine xwrite (fun n0 => [ (13, id)]) [13] [9, 10] [[], [], [], [], [], [], [], [], [], [], [], [], [], []] (by kernel_rfl) (by kernel_rfl) (by kernel_rfl) (by kernel_rfl) (fun n0 hn0 => ⟨rfl, ?_, ?_⟩)
          · exact TOk_cons (.inl (lt_of_bnd hn0 hNi)) (TOk_nil _ _)
          · have z1 := lt_of_bnd hn0 hNi
            have z2 := lt_of_bnd hn0 hNm
            simp -implicitDefEqProofs (maxSteps := 1000000) (disch := omega) only [↓xsP, ↓vc_seq, xsQ, xsT, xsR, xsD, ↓reduceIte, reduceCtorEq, eq_self, ne_eq, imp_self, forall_const, Nat.reduceEqDiff, Nat.reduceAdd, Nat.reduceSub, Nat.reduceMul, Nat.reduceLT, Nat.reduceLeDiff, Nat.reduceBEq, Nat.reduceDiv, Nat.reduceMod, Int.reduceToNat, Int.reduceNeg, Int.reduceAdd, Int.reduceSub, Int.reduceMul, Int.reduceEq, Int.reduceNe, Int.reduceLT, Int.reduceLE, Int.reduceGT, Int.reduceGE, hNi, hd80, hd5]
            refine ⟨.inl (by decide), ?_⟩
            refine wapp_nilG ti_39 rfl ti_3 (by kernel_rfl) (by decide) [irow w.call] ?_ (by simp) ?_ ?_ ?_
            · simp -implicitDefEqProofs (maxSteps := 1000000) (disch := omega) only [↓xsP, ↓vc_seq, xsQ, xsT, xsR, xsD, ↓reduceIte, reduceCtorEq, eq_self, ne_eq, imp_self, forall_const, Nat.reduceEqDiff, Nat.reduceAdd, Nat.reduceSub, Nat.reduceMul, Nat.reduceLT, Nat.reduceLeDiff, Nat.reduceBEq, Nat.reduceDiv, Nat.reduceMod, Int.reduceToNat, Int.reduceNeg, Int.reduceAdd, Int.reduceSub, Int.reduceMul, Int.reduceEq, Int.reduceNe, Int.reduceLT, Int.reduceLE, Int.reduceGT, Int.reduceGE, irow]
            · exact Nat.le_trans (Nat.mul_le_mul_right _ (show 1 ≤ 1000 by omega)) (by decide)
            · show 1 ≤ 140737488355328
              omega
            simp -implicitDefEqProofs (maxSteps := 1000000) (disch := omega) only [↓xsP, ↓vc_seq, xsQ, xsT, xsR, xsD, ↓reduceIte, reduceCtorEq, eq_self, ne_eq, imp_self, forall_const, Nat.reduceEqDiff, Nat.reduceAdd, Nat.reduceSub, Nat.reduceMul, Nat.reduceLT, Nat.reduceLeDiff, Nat.reduceBEq, Nat.reduceDiv, Nat.reduceMod, Int.reduceToNat, Int.reduceNeg, Int.reduceAdd, Int.reduceSub, Int.reduceMul, Int.reduceEq, Int.reduceNe, Int.reduceLT, Int.reduceLE, Int.reduceGT, Int.reduceGE, hNi, hlnV]
            refine ⟨.inl (by decide), ?_⟩
            rw [w_ord hV6]
            refine fin_ok (Mem.le_refl _) ⟨rfl, .ms (n0 + 10) 0 1, ?_⟩
            rw [if_pos hcan, htk2]
            have hBn : B (n0 + 10) = none := by
              cases hm : B (n0 + 10) with
              | none => rfl
              | some bk => have := hB _ _ hm; rw [hn0 _ (by omega)] at this; cases this
            have hkk : ∀ k bk, k ≠ id → N k = some bk → (((N.set (n0 + 9) (.cells 3 [[.int .i64 w.call]] 0)).set (n0 + 10) (.cells 3 [[.int .i64 w.call]] 0)).set id (.cells 83 [wRow mid (.ms (n0 + 10) 0 1) V] 0)) k = some bk := fun k bk h1 h => by
              have := lt_of_bnd hn0 h
              rw [Mem.set_ne _ _ _ _ (fun e => h1 e.symm), Mem.set_ne _ _ _ _ (by omega), Mem.set_ne _ _ _ _ (by omega)]
              exact h
            refine ⟨fun k bk hk => hkk _ _ (fun e => by rw [e, hW.nid] at hk; cases hk) (hB _ _ hk), hW.nid, hW.nmid, hW.ne, hV6, by rw [Mem.set_eq]; rfl, hkk _ _ hW.ne hNm, .inr ⟨n0 + 10, hBn, by omega, by omega, ?_, ?_⟩⟩
            · rw [q1]; rfl
            · rw [Mem.set_ne _ _ _ _ (by omega), Mem.set_eq, q1]
              rfl
        · have hNO := hNo _ _ q2 q3 q5
          refine xwrite (fun n0 => [ (10, idO), (13, id)]) [10, 13] [9, 10] [[10], [], [], [], [], [], [], [], [], [], [], [], [], []] (by kernel_rfl) (by kernel_rfl) (by kernel_rfl) (by kernel_rfl) (fun n0 hn0 => ⟨rfl, ?_, ?_⟩)
          · exact TOk_cons (.inl (lt_of_bnd hn0 hNO)) (TOk_cons (.inl (lt_of_bnd hn0 hNi)) (TOk_nil _ _))
          · have z1 := lt_of_bnd hn0 hNi
            have z2 := lt_of_bnd hn0 hNm
            have z3 := lt_of_bnd hn0 hNO
            simp -implicitDefEqProofs (maxSteps := 1000000) (disch := omega) only [↓xsP, ↓vc_seq, xsQ, xsT, xsR, xsD, ↓reduceIte, reduceCtorEq, eq_self, ne_eq, imp_self, forall_const, Nat.reduceEqDiff, Nat.reduceAdd, Nat.reduceSub, Nat.reduceMul, Nat.reduceLT, Nat.reduceLeDiff, Nat.reduceBEq, Nat.reduceDiv, Nat.reduceMod, Int.reduceToNat, Int.reduceNeg, Int.reduceAdd, Int.reduceSub, Int.reduceMul, Int.reduceEq, Int.reduceNe, Int.reduceLT, Int.reduceLE, Int.reduceGT, Int.reduceGE, hNi, hd80, hd5]
            refine ⟨.inl (by decide), ?_⟩
            refine wapp_ms _ _ _ _ _ 3 _ _ ti_39 rfl ti_3 (by kernel_rfl) (by decide) idO W.ord.length _ (rows := W.ord.map irow) (keep := 0) [irow w.call] ?_ ?_ (by simp) (Nat.zero_le _) ?_ ?_ ?_
            · rw [Mem.set_ne _ _ _ _ (by omega)]
              exact hNO
            · simp -implicitDefEqProofs (maxSteps := 1000000) (disch := omega) only [↓xsP, ↓vc_seq, xsQ, xsT, xsR, xsD, ↓reduceIte, reduceCtorEq, eq_self, ne_eq, imp_self, forall_const, Nat.reduceEqDiff, Nat.reduceAdd, Nat.reduceSub, Nat.reduceMul, Nat.reduceLT, Nat.reduceLeDiff, Nat.reduceBEq, Nat.reduceDiv, Nat.reduceMod, Int.reduceToNat, Int.reduceNeg, Int.reduceAdd, Int.reduceSub, Int.reduceMul, Int.reduceEq, Int.reduceNe, Int.reduceLT, Int.reduceLE, Int.reduceGT, Int.reduceGE, irow]
            · exact Nat.le_trans (Nat.mul_le_mul_right _ (show W.ord.length + 1 ≤ 1001 by omega)) (by decide)
            · show W.ord.length + 1 ≤ 140737488355328
              omega
            simp -implicitDefEqProofs (maxSteps := 1000000) (disch := omega) only [↓xsP, ↓vc_seq, xsQ, xsT, xsR, xsD, ↓reduceIte, reduceCtorEq, eq_self, ne_eq, imp_self, forall_const, Nat.reduceEqDiff, Nat.reduceAdd, Nat.reduceSub, Nat.reduceMul, Nat.reduceLT, Nat.reduceLeDiff, Nat.reduceBEq, Nat.reduceDiv, Nat.reduceMod, Int.reduceToNat, Int.reduceNeg, Int.reduceAdd, Int.reduceSub, Int.reduceMul, Int.reduceEq, Int.reduceNe, Int.reduceLT, Int.reduceLE, Int.reduceGT, Int.reduceGE, hNi, hlnV]
            refine ⟨.inl (by decide), ?_⟩
            rw [w_ord hV6]
            refine fin_ok (Mem.le_refl _) ⟨rfl, .ms (n0 + 10) 0 (W.ord.length + 1), ?_⟩
            rw [if_pos hcan, htk2]
            have hBn : B (n0 + 10) = none := by
              cases hm : B (n0 + 10) with
              | none => rfl
              | some bk => have := hB _ _ hm; rw [hn0 _ (by omega)] at this; cases this
            have hkk : ∀ k bk, k ≠ id → k ≠ idO → N k = some bk → ((((N.set (n0 + 9) (.cells 3 [[.int .i64 w.call]] 0)).del idO).set (n0 + 10) (.cells 3 ((W.ord.map irow).take W.ord.length ++ [[.int .i64 w.call]]) 0)).set id (.cells 83 [wRow mid (.ms (n0 + 10) 0 (W.ord.length + 1)) V] 0)) k = some bk := fun k bk h1 h2 h => by
              have := lt_of_bnd hn0 h
              rw [Mem.set_ne _ _ _ _ (fun e => h1 e.symm), Mem.set_ne _ _ _ _ (by omega), Mem.del_ne _ _ _ (fun e => h2 e.symm), Mem.set_ne _ _ _ _ (by omega)]
              exact h
            refine ⟨fun k bk hk => hkk _ _ (fun e => by rw [e, hW.nid] at hk; cases hk) (fun e => by rw [e, q1] at hk; cases hk) (hB _ _ hk), hW.nid, hW.nmid, hW.ne, hV6, by rw [Mem.set_eq]; rfl, hkk _ _ hW.ne (fun e => q3 e.symm) hNm, .inr ⟨n0 + 10, hBn, by omega, by omega, ?_, ?_⟩⟩
            · simp
            · rw [Mem.set_ne _ _ _ _ (by omega), Mem.set_eq, List.take_of_length_le (by simp), List.map_append]
              rfl
end Go.X
set_option linter.unusedVariables false
set_option linter.unusedSimpArgs false
set_option maxHeartbeats 20000000
set_option maxRecDepth 100000
namespace Go.X
open Go.Proofs.Try (prog)

theorem put21 : putL [⟨1, 5⟩] = [⟨1, 5⟩] := by
  show doL [] ⟨1, 1, 0, 5⟩ = _
  rw [doL_upd (by simp [Asc]) (by decide) (by decide)]
  decide
theorem get21 : doA [⟨1, 5⟩] ⟨4, 1, 0, 0⟩ = ⟨0, true, ⟨1, 5⟩, 0, []⟩ := by
  rw [doA_one (asc1 _) (by decide) (by decide)]
  decide
theorem awake21_spec (M : Mem) : XCalls Go.Proofs.Try.prog 13 [] M fun r M' => r = .l (.bool true) ∧ M' = M := by
  refine xcalls_intro (rs := [.tmp 0]) Go.Proofs.Try.func13 rfl (by kernel_rfl) rfl rfl (by kernel_rfl) (by simp) ?_
  simp -implicitDefEqProofs (maxSteps := 1000000) (disch := omega) only [↓xsP, ↓vc_seq, xsQ, xsT, xsR, xsD, ↓reduceIte, reduceCtorEq, eq_self, ne_eq, imp_self, forall_const, Nat.reduceEqDiff, Nat.reduceAdd, Nat.reduceSub, Nat.reduceMul, Nat.reduceLT, Nat.reduceLeDiff, Nat.reduceBEq, Nat.reduceDiv, Nat.reduceMod, Int.reduceToNat, Int.reduceNeg, Int.reduceAdd, Int.reduceSub, Int.reduceMul, Int.reduceEq, Int.reduceNe, Int.reduceLT, Int.reduceLE, Int.reduceGT, Int.reduceGE]
  refine newI_intro fun pa hpa => ?_
  simp -implicitDefEqProofs (maxSteps := 1000000) (disch := omega) only [↓xsP, ↓vc_seq, xsQ, xsT, xsR, xsD, ↓reduceIte, reduceCtorEq, eq_self, ne_eq, imp_self, forall_const, Nat.reduceEqDiff, Nat.reduceAdd, Nat.reduceSub, Nat.reduceMul, Nat.reduceLT, Nat.reduceLeDiff, Nat.reduceBEq, Nat.reduceDiv, Nat.reduceMod, Int.reduceToNat, Int.reduceNeg, Int.reduceAdd, Int.reduceSub, Int.reduceMul, Int.reduceEq, Int.reduceNe, Int.reduceLT, Int.reduceLE, Int.reduceGT, Int.reduceGE]
  refine callI_gs (GStep.keep (rows' := ([⟨1, 5⟩] : List Pr).map Pr.row) rfl) ?_
  have hM1 := Mem.set_eq M pa (.cells 26 (([⟨1, 5⟩] : List Pr).map Pr.row) (([⟨1, 5⟩] : List Pr).map Pr.row).length)
  have hle := le_new (b := .cells 26 (([⟨1, 5⟩] : List Pr).map Pr.row) (([⟨1, 5⟩] : List Pr).map Pr.row).length) (Mem.le_refl M) hpa
  generalize M.set pa _ = B at hM1 hle ⊢
  refine callI_of ((XCalls.rd (.cons (.inr ⟨_, _, rfl, rfl, Rd.ms hM1 (Nat.le_refl _) rfl⟩) .nil) (wnew_spec [⟨1, 5⟩] (by decide) B)).mono ?_)
  rintro _ N0 ⟨id, mid, rfl, hW⟩
  rw [put21] at hW
  simp -implicitDefEqProofs (maxSteps := 1000000) (disch := omega) only [↓xsP, ↓vc_seq, xsQ, xsT, xsR, xsD, ↓reduceIte, reduceCtorEq, eq_self, ne_eq, imp_self, forall_const, Nat.reduceEqDiff, Nat.reduceAdd, Nat.reduceSub, Nat.reduceMul, Nat.reduceLT, Nat.reduceLeDiff, Nat.reduceBEq, Nat.reduceDiv, Nat.reduceMod, Int.reduceToNat, Int.reduceNeg, Int.reduceAdd, Int.reduceSub, Int.reduceMul, Int.reduceEq, Int.reduceNe, Int.reduceLT, Int.reduceLE, Int.reduceGT, Int.reduceGE]
  have c1 : ((1 : Nat) : Int) = 1 := rfl
  refine callI_of ((call_in hW (by decide) 0 (by decide) ⟨4, 1, 0, 0⟩).mono ?_)
  rintro _ N1 ⟨rfl, hW1⟩
  rw [show canCall ⟨[⟨1, 5⟩], List.replicate 6 wk0, 0, []⟩ 0 ⟨4, 1, 0, 0⟩ = true from rfl, if_pos rfl] at hW1
  rw [show canCall ⟨[⟨1, 5⟩], List.replicate 6 wk0, 0, []⟩ 0 ⟨4, 1, 0, 0⟩ = true from rfl]
  obtain ⟨W1, hV1⟩ : ∃ W1, W1 = callW ⟨[⟨1, 5⟩], List.replicate 6 wk0, 0, []⟩ 0 ⟨4, 1, 0, 0⟩ := ⟨_, rfl⟩
  rw [← hV1] at hW1
  simp -implicitDefEqProofs (maxSteps := 1000000) (disch := omega) only [↓xsP, ↓vc_seq, xsQ, xsT, xsR, xsD, ↓reduceIte, reduceCtorEq, eq_self, ne_eq, imp_self, forall_const, Nat.reduceEqDiff, Nat.reduceAdd, Nat.reduceSub, Nat.reduceMul, Nat.reduceLT, Nat.reduceLeDiff, Nat.reduceBEq, Nat.reduceDiv, Nat.reduceMod, Int.reduceToNat, Int.reduceNeg, Int.reduceAdd, Int.reduceSub, Int.reduceMul, Int.reduceEq, Int.reduceNe, Int.reduceLT, Int.reduceLE, Int.reduceGT, Int.reduceGE]
  have e1 : canTook W1 0 = true := by rw [hV1]; rfl
  refine callI_of ((took_in hW1 0 (by decide) (by rw [hV1]; decide) (by rw [hV1]; decide)).mono ?_)
  rintro _ N2 ⟨rfl, o2, hW2⟩
  rw [e1, if_pos rfl] at hW2
  rw [e1]
  obtain ⟨W2, hV2⟩ : ∃ W2, W2 = tookW W1 0 := ⟨_, rfl⟩
  have hg1 : W1.ws.getD 0 default = ⟨true, ⟨4, 1, 0, 0⟩, 0, false, ans0⟩ := by rw [hV1]; rfl
  have hs1 : W1.s = [⟨1, 5⟩] := by rw [hV1]; rfl
  have h61 : W1.ws.length = 6 := by rw [hV1]; rfl
  have ho1 : W1.ord = [] := by rw [hV1]; rfl
  have hs2 : W2.s = [⟨1, 5⟩] := by rw [hV2, tookW, hg1, hs1]; exact doL_read (by decide)
  have ho2 : W2.ord = [0] := by rw [hV2, tookW, hg1, ho1]; rfl
  have hg2 : W2.ws.getD 0 default = ⟨true, ⟨4, 1, 0, 0⟩, 0, true, ⟨0, true, ⟨1, 5⟩, 0, []⟩⟩ := by
    rw [hV2, tookW, hg1, hs1, get21]
    exact (getD_set _ _ _ _ _ (by omega)).trans (if_pos rfl)
  have h62 : W2.ws.length = 6 := by rw [hV2, tookW]; simpa using h61
  rw [← hV2] at hW2
  simp -implicitDefEqProofs (maxSteps := 1000000) (disch := omega) only [↓xsP, ↓vc_seq, xsQ, xsT, xsR, xsD, ↓reduceIte, reduceCtorEq, eq_self, ne_eq, imp_self, forall_const, Nat.reduceEqDiff, Nat.reduceAdd, Nat.reduceSub, Nat.reduceMul, Nat.reduceLT, Nat.reduceLeDiff, Nat.reduceBEq, Nat.reduceDiv, Nat.reduceMod, Int.reduceToNat, Int.reduceNeg, Int.reduceAdd, Int.reduceSub, Int.reduceMul, Int.reduceEq, Int.reduceNe, Int.reduceLT, Int.reduceLE, Int.reduceGT, Int.reduceGE]
  refine callI_of (XCalls.wk ((ret_in hW2 0 (by decide) ⟨0, true, ⟨1, 5⟩, 0, []⟩ (by rw [hg2]; decide)).mono ?_))
  rintro _ N3 ⟨rfl, hW3⟩
  have e3 : retB W2 0 ⟨0, true, ⟨1, 5⟩, 0, []⟩ = true := by rw [retB, hg2]; exact bof_true rfl
  rw [e3]
  have hV3 : retW W2 0 = { W2 with ws := W2.ws.set 0 wk0 } := by rw [retW, hg2, if_pos rfl]
  rw [hV3] at hW3
  have hg3 : (W2.ws.set 0 wk0).getD 0 default = wk0 := (getD_set _ _ _ _ _ (by omega)).trans (if_pos rfl)
  simp -implicitDefEqProofs (maxSteps := 1000000) (disch := omega) only [↓xsP, ↓vc_seq, xsQ, xsT, xsR, xsD, ↓reduceIte, reduceCtorEq, eq_self, ne_eq, imp_self, forall_const, Nat.reduceEqDiff, Nat.reduceAdd, Nat.reduceSub, Nat.reduceMul, Nat.reduceLT, Nat.reduceLeDiff, Nat.reduceBEq, Nat.reduceDiv, Nat.reduceMod, Int.reduceToNat, Int.reduceNeg, Int.reduceAdd, Int.reduceSub, Int.reduceMul, Int.reduceEq, Int.reduceNe, Int.reduceLT, Int.reduceLE, Int.reduceGT, Int.reduceGE]
  refine call_of (worder_spec hW3 (by show W2.ord.length ≤ _; rw [ho2]; decide)) ?_
  rw [show ({ W2 with ws := W2.ws.set 0 wk0 } : Wit).ord = [0] from ho2]
  simp -implicitDefEqProofs (maxSteps := 1000000) (disch := omega) only [↓xsP, ↓vc_seq, xsQ, xsT, xsR, xsD, ↓reduceIte, reduceCtorEq, eq_self, ne_eq, imp_self, forall_const, Nat.reduceEqDiff, Nat.reduceAdd, Nat.reduceSub, Nat.reduceMul, Nat.reduceLT, Nat.reduceLeDiff, Nat.reduceBEq, Nat.reduceDiv, Nat.reduceMod, Int.reduceToNat, Int.reduceNeg, Int.reduceAdd, Int.reduceSub, Int.reduceMul, Int.reduceEq, Int.reduceNe, Int.reduceLT, Int.reduceLE, Int.reduceGT, Int.reduceGE, c1]
  refine call_of (wpairs_spec hW3 (by show W2.s.length ≤ _; rw [hs2]; decide)) ?_
  rw [show ({ W2 with ws := W2.ws.set 0 wk0 } : Wit).s = [⟨1, 5⟩] from hs2]
  simp -implicitDefEqProofs (maxSteps := 1000000) (disch := omega) only [↓xsP, ↓vc_seq, xsQ, xsT, xsR, xsD, ↓reduceIte, reduceCtorEq, eq_self, ne_eq, imp_self, forall_const, Nat.reduceEqDiff, Nat.reduceAdd, Nat.reduceSub, Nat.reduceMul, Nat.reduceLT, Nat.reduceLeDiff, Nat.reduceBEq, Nat.reduceDiv, Nat.reduceMod, Int.reduceToNat, Int.reduceNeg, Int.reduceAdd, Int.reduceSub, Int.reduceMul, Int.reduceEq, Int.reduceNe, Int.reduceLT, Int.reduceLE, Int.reduceGT, Int.reduceGE, c1]
  refine call_of (busy_in hW3 0 (by decide)) ?_
  rw [show (({ W2 with ws := W2.ws.set 0 wk0 } : Wit).ws.getD 0 default).busy = false by rw [show ({ W2 with ws := W2.ws.set 0 wk0 } : Wit).ws.getD 0 default = wk0 from hg3]; rfl]
  simp -implicitDefEqProofs (maxSteps := 1000000) (disch := omega) only [↓xsP, ↓vc_seq, xsQ, xsT, xsR, xsD, ↓reduceIte, reduceCtorEq, eq_self, ne_eq, imp_self, forall_const, Nat.reduceEqDiff, Nat.reduceAdd, Nat.reduceSub, Nat.reduceMul, Nat.reduceLT, Nat.reduceLeDiff, Nat.reduceBEq, Nat.reduceDiv, Nat.reduceMod, Int.reduceToNat, Int.reduceNeg, Int.reduceAdd, Int.reduceSub, Int.reduceMul, Int.reduceEq, Int.reduceNe, Int.reduceLT, Int.reduceLE, Int.reduceGT, Int.reduceGE]
  refine callI_of ((took_in hW3 0 (by decide) (by show W2.s.length ≤ _; rw [hs2]; decide) (by show W2.ord.length ≤ _; rw [ho2]; decide)).mono ?_)
  rintro _ N4 ⟨rfl, o4, hW4⟩
  rw [show canTook { W2 with ws := W2.ws.set 0 wk0 } 0 = false by rw [canTook, show ({ W2 with ws := W2.ws.set 0 wk0 } : Wit).ws.getD 0 default = wk0 from hg3]; rfl]
  simp -implicitDefEqProofs (maxSteps := 1000000) (disch := omega) only [↓xsP, ↓vc_seq, xsQ, xsT, xsR, xsD, ↓reduceIte, reduceCtorEq, eq_self, ne_eq, imp_self, forall_const, Nat.reduceEqDiff, Nat.reduceAdd, Nat.reduceSub, Nat.reduceMul, Nat.reduceLT, Nat.reduceLeDiff, Nat.reduceBEq, Nat.reduceDiv, Nat.reduceMod, Int.reduceToNat, Int.reduceNeg, Int.reduceAdd, Int.reduceSub, Int.reduceMul, Int.reduceEq, Int.reduceNe, Int.reduceLT, Int.reduceLE, Int.reduceGT, Int.reduceGE]
  exact fin_ok (fun k bk hk => hW4.le _ _ (hle _ _ hk)) ⟨rfl, rfl⟩
end Go.X
set_option linter.unusedVariables false
set_option linter.unusedSimpArgs false
set_option maxHeartbeats 20000000
set_option maxRecDepth 100000
namespace Go.X
open Go.Proofs.Try (prog)

structure Stp where
  act : Int
  who : Int
  op : Opn
  ans : Ans
  deriving DecidableEq, Inhabited
def Stp.row (s : Stp) : List Lf := [.int .i64 s.act, .int .i64 s.who, .int .i64 s.op.kind, .int .i64 s.op.key, .int .i64 s.op.to, .int .i64 s.op.val,
  .int .i64 s.ans.err, .bool s.ans.ok, .int .i64 s.ans.pair.key, .int .i64 s.ans.pair.val, .int .i64 s.ans.n, .sl (s.ans.pairs.map Pr.row)]
theorem row_stp (s : Stp) : s.row = [.int .i64 s.act, .int .i64 s.who, .int .i64 s.op.kind, .int .i64 s.op.key, .int .i64 s.op.to, .int .i64 s.op.val,
  .int .i64 s.ans.err, .bool s.ans.ok, .int .i64 s.ans.pair.key, .int .i64 s.ans.pair.val, .int .i64 s.ans.n, .sl (s.ans.pairs.map Pr.row)] := rfl
theorem ia_stp (P : Program) (M : Mem) (t : TypeId) (l : List Stp) (k : IntKind) (n : Int) (h0 : 0 ≤ n) (h1 : n < l.length) :
    indexAddrA P M t (.l (.sl (l.map Stp.row))) (.l (.int k n)) = (match tiOf P t with
      | some ti => match ti.d with
        | .slice e => match tiOf P e with
          | some te => if 12 = te.size then some (.l (.rp (Stp.row (l.getD n.toNat default)))) else none
          | none => none
        | _ => none
      | none => none) := ia_rows Stp.row default 12 (fun _ => rfl) P M t l k n h0 h1
def LightS (l : List Stp) : Prop := l.length ≤ 120 ∧ ∀ s ∈ l, s.ans.pairs.length ≤ 50
theorem light21_spec (l : List Stp) (hl : l.length ≤ 140737488355328) (M : Mem) : XCalls Go.Proofs.Try.prog 12 [.l (.sl (l.map Stp.row))] M fun r M' => ((∃ n : Int, 0 < n ∧ r = .l (.int .i64 n)) ∨ r = .l (.int .i64 0) ∧ LightS l) ∧ M' = M := by
  refine xcalls_intro (rs := [.tmp 2]) Go.Proofs.Try.func12 rfl (by kernel_rfl) rfl rfl (by kernel_rfl) (by simp) ?_
  simp -implicitDefEqProofs (maxSteps := 1000000) (disch := omega) only [↓xsP, ↓vc_seq, xsQ, xsT, xsR, xsD, ↓reduceIte, reduceCtorEq, eq_self, ne_eq, imp_self, forall_const, Nat.reduceEqDiff, Nat.reduceAdd, Nat.reduceSub, Nat.reduceMul, Nat.reduceLT, Nat.reduceLeDiff, Nat.reduceBEq, Nat.reduceDiv, Nat.reduceMod, Int.reduceToNat, Int.reduceNeg, Int.reduceAdd, Int.reduceSub, Int.reduceMul, Int.reduceEq, Int.reduceNe, Int.reduceLT, Int.reduceLE, Int.reduceGT, Int.reduceGE]
  refine loopI_of (xloop (by kernel_rfl) (fun k fr M' => ∃ i : Nat, i ≤ l.length ∧ k = l.length - i ∧ fr 5 = .l (.sl (l.map Stp.row)) ∧ fr 6 = .l (.int .i64 l.length) ∧ fr 7 = .l (.int .i64 i) ∧ M' = M ∧ i ≤ 120 ∧ ∀ s ∈ l.take i, s.ans.pairs.length ≤ 50) l.length ?_ ?_)
  · exact ⟨0, Nat.zero_le _, rfl, by simp -implicitDefEqProofs (maxSteps := 1000000) (disch := omega) only [↓xsP, ↓vc_seq, xsQ, xsT, xsR, xsD, ↓reduceIte, reduceCtorEq, eq_self, ne_eq, imp_self, forall_const, Nat.reduceEqDiff, Nat.reduceAdd, Nat.reduceSub, Nat.reduceMul, Nat.reduceLT, Nat.reduceLeDiff, Nat.reduceBEq, Nat.reduceDiv, Nat.reduceMod, Int.reduceToNat, Int.reduceNeg, Int.reduceAdd, Int.reduceSub, Int.reduceMul, Int.reduceEq, Int.reduceNe, Int.reduceLT, Int.reduceLE, Int.reduceGT, Int.reduceGE], by simp -implicitDefEqProofs (maxSteps := 1000000) (disch := omega) only [↓xsP, ↓vc_seq, xsQ, xsT, xsR, xsD, ↓reduceIte, reduceCtorEq, eq_self, ne_eq, imp_self, forall_const, Nat.reduceEqDiff, Nat.reduceAdd, Nat.reduceSub, Nat.reduceMul, Nat.reduceLT, Nat.reduceLeDiff, Nat.reduceBEq, Nat.reduceDiv, Nat.reduceMod, Int.reduceToNat, Int.reduceNeg, Int.reduceAdd, Int.reduceSub, Int.reduceMul, Int.reduceEq, Int.reduceNe, Int.reduceLT, Int.reduceLE, Int.reduceGT, Int.reduceGE], by simp -implicitDefEqProofs (maxSteps := 1000000) (disch := omega) only [↓xsP, ↓vc_seq, xsQ, xsT, xsR, xsD, ↓reduceIte, reduceCtorEq, eq_self, ne_eq, imp_self, forall_const, Nat.reduceEqDiff, Nat.reduceAdd, Nat.reduceSub, Nat.reduceMul, Nat.reduceLT, Nat.reduceLeDiff, Nat.reduceBEq, Nat.reduceDiv, Nat.reduceMod, Int.reduceToNat, Int.reduceNeg, Int.reduceAdd, Int.reduceSub, Int.reduceMul, Int.reduceEq, Int.reduceNe, Int.reduceLT, Int.reduceLE, Int.reduceGT, Int.reduceGE, Int.cast_ofNat_Int], rfl, by omega, by simp⟩
  · rintro k fr M' ⟨i, hi, rfl, f5, f6, f7, rfl, hi2, hok⟩
    simp -implicitDefEqProofs (maxSteps := 1000000) (disch := omega) only [↓xsP, ↓vc_seq, xsQ, xsT, xsR, xsD, ↓reduceIte, reduceCtorEq, eq_self, ne_eq, imp_self, forall_const, Nat.reduceEqDiff, Nat.reduceAdd, Nat.reduceSub, Nat.reduceMul, Nat.reduceLT, Nat.reduceLeDiff, Nat.reduceBEq, Nat.reduceDiv, Nat.reduceMod, Int.reduceToNat, Int.reduceNeg, Int.reduceAdd, Int.reduceSub, Int.reduceMul, Int.reduceEq, Int.reduceNe, Int.reduceLT, Int.reduceLE, Int.reduceGT, Int.reduceGE, f5, f6, f7]
    refine condI_prop (fun hlt => ?_) (fun hlt => ?_)
    · have hil : i < l.length := by omega
      have hsc : l.take (i + 1) = l.take i ++ [l.getD i default] := by
        rw [List.take_add_one, List.getD_eq_getElem?_getD, List.getElem?_eq_getElem hil]
        rfl
      simp -implicitDefEqProofs (maxSteps := 1000000) (disch := omega) only [↓xsP, ↓vc_seq, xsQ, xsT, xsR, xsD, ↓reduceIte, reduceCtorEq, eq_self, ne_eq, imp_self, forall_const, Nat.reduceEqDiff, Nat.reduceAdd, Nat.reduceSub, Nat.reduceMul, Nat.reduceLT, Nat.reduceLeDiff, Nat.reduceBEq, Nat.reduceDiv, Nat.reduceMod, Int.reduceToNat, Int.reduceNeg, Int.reduceAdd, Int.reduceSub, Int.reduceMul, Int.reduceEq, Int.reduceNe, Int.reduceLT, Int.reduceLE, Int.reduceGT, Int.reduceGE, f5, f6, f7, ia_stp, row_stp]
      refine newI_intro fun id hid => ?_
      obtain ⟨s, hs⟩ : ∃ s, l.getD i default = s := ⟨_, rfl⟩
      rw [hs] at hsc
      have wi : IntKind.i64.wrap ((i : Int) + 1) = (i : Int) + 1 := wrap_in (by omega) (by omega)
      simp -implicitDefEqProofs (maxSteps := 1000000) (disch := omega) only [↓xsP, ↓vc_seq, xsQ, xsT, xsR, xsD, ↓reduceIte, reduceCtorEq, eq_self, ne_eq, imp_self, forall_const, Nat.reduceEqDiff, Nat.reduceAdd, Nat.reduceSub, Nat.reduceMul, Nat.reduceLT, Nat.reduceLeDiff, Nat.reduceBEq, Nat.reduceDiv, Nat.reduceMod, Int.reduceToNat, Int.reduceNeg, Int.reduceAdd, Int.reduceSub, Int.reduceMul, Int.reduceEq, Int.reduceNe, Int.reduceLT, Int.reduceLE, Int.reduceGT, Int.reduceGE, f5, f6, f7, ia_stp, row_stp, hs]
      refine gI_prop_f (fun h1 => ?_) (fun h1 => ?_)
      · simp -implicitDefEqProofs (maxSteps := 1000000) (disch := omega) only [↓xsP, ↓vc_seq, xsQ, xsT, xsR, xsD, ↓reduceIte, reduceCtorEq, eq_self, ne_eq, imp_self, forall_const, Nat.reduceEqDiff, Nat.reduceAdd, Nat.reduceSub, Nat.reduceMul, Nat.reduceLT, Nat.reduceLeDiff, Nat.reduceBEq, Nat.reduceDiv, Nat.reduceMod, Int.reduceToNat, Int.reduceNeg, Int.reduceAdd, Int.reduceSub, Int.reduceMul, Int.reduceEq, Int.reduceNe, Int.reduceLT, Int.reduceLE, Int.reduceGT, Int.reduceGE, f5, f6, f7, ia_stp, row_stp, hs, h1]
        refine condI_prop (fun h2 => ?_) (fun h2 => ?_)
        · simp -implicitDefEqProofs (maxSteps := 1000000) (disch := omega) only [↓xsP, ↓vc_seq, xsQ, xsT, xsR, xsD, ↓reduceIte, reduceCtorEq, eq_self, ne_eq, imp_self, forall_const, Nat.reduceEqDiff, Nat.reduceAdd, Nat.reduceSub, Nat.reduceMul, Nat.reduceLT, Nat.reduceLeDiff, Nat.reduceBEq, Nat.reduceDiv, Nat.reduceMod, Int.reduceToNat, Int.reduceNeg, Int.reduceAdd, Int.reduceSub, Int.reduceMul, Int.reduceEq, Int.reduceNe, Int.reduceLT, Int.reduceLE, Int.reduceGT, Int.reduceGE, f5, f6, f7, wi]
          exact fin_ok (le_new (Mem.le_refl _) hid) ⟨.inl ⟨_, by omega, rfl⟩, rfl⟩
        · simp -implicitDefEqProofs (maxSteps := 1000000) (disch := omega) only [↓xsP, ↓vc_seq, xsQ, xsT, xsR, xsD, ↓reduceIte, reduceCtorEq, eq_self, ne_eq, imp_self, forall_const, Nat.reduceEqDiff, Nat.reduceAdd, Nat.reduceSub, Nat.reduceMul, Nat.reduceLT, Nat.reduceLeDiff, Nat.reduceBEq, Nat.reduceDiv, Nat.reduceMod, Int.reduceToNat, Int.reduceNeg, Int.reduceAdd, Int.reduceSub, Int.reduceMul, Int.reduceEq, Int.reduceNe, Int.reduceLT, Int.reduceLE, Int.reduceGT, Int.reduceGE, f5, f6, f7]
          refine ⟨l.length - (i + 1), M', by omega, le_new (Mem.le_refl _) hid, i + 1, by omega, rfl, by simp, rfl, by omega, fun x hx => ?_⟩
          rw [hsc] at hx
          rcases List.mem_append.1 hx with hx | hx
          · exact hok x hx
          · rw [List.mem_singleton.1 hx]
            omega
      · simp -implicitDefEqProofs (maxSteps := 1000000) (disch := omega) only [↓xsP, ↓vc_seq, xsQ, xsT, xsR, xsD, ↓reduceIte, reduceCtorEq, eq_self, ne_eq, imp_self, forall_const, Nat.reduceEqDiff, Nat.reduceAdd, Nat.reduceSub, Nat.reduceMul, Nat.reduceLT, Nat.reduceLeDiff, Nat.reduceBEq, Nat.reduceDiv, Nat.reduceMod, Int.reduceToNat, Int.reduceNeg, Int.reduceAdd, Int.reduceSub, Int.reduceMul, Int.reduceEq, Int.reduceNe, Int.reduceLT, Int.reduceLE, Int.reduceGT, Int.reduceGE, f5, f6, f7, h1, wi]
        exact fin_ok (le_new (Mem.le_refl _) hid) ⟨.inl ⟨_, by omega, rfl⟩, rfl⟩
    · simp -implicitDefEqProofs (maxSteps := 1000000) (disch := omega) only [↓xsP, ↓vc_seq, xsQ, xsT, xsR, xsD, ↓reduceIte, reduceCtorEq, eq_self, ne_eq, imp_self, forall_const, Nat.reduceEqDiff, Nat.reduceAdd, Nat.reduceSub, Nat.reduceMul, Nat.reduceLT, Nat.reduceLeDiff, Nat.reduceBEq, Nat.reduceDiv, Nat.reduceMod, Int.reduceToNat, Int.reduceNeg, Int.reduceAdd, Int.reduceSub, Int.reduceMul, Int.reduceEq, Int.reduceNe, Int.reduceLT, Int.reduceLE, Int.reduceGT, Int.reduceGE, f5, f6, f7]
      have hil : i = l.length := by omega
      refine fin_ok (Mem.le_refl _) ⟨.inr ⟨rfl, by omega, ?_⟩, rfl⟩
      rwa [hil, List.take_of_length_le (Nat.le_refl _)] at hok
end Go.X
set_option linter.unusedVariables false
set_option linter.unusedSimpArgs false
set_option maxRecDepth 100000
namespace Go.X
open Go.Proofs.Try (prog)
open Go.RowKit Go.ChangeShapes Go.WideShapes Go.ChangeAt

theorem o_stp : Opens Go.Proofs.Try.prog 31 fun ls => ∃ e : Stp, ls = e.row ∧ e.ans.pairs.length ≤ big := by
  refine (opens_tys (ts := [3, 3, 23, 29]) (by kernel_rfl) [IsI, IsI, _, _] ⟨o_i (by kernel_rfl), o_i (by kernel_rfl), o_op, o_ans, trivial⟩).mono ?_
  rintro ls ⟨a, b, rfl, ⟨x, rfl⟩, c, d, rfl, ⟨y, rfl⟩, e, f, rfl, ⟨o, rfl⟩, g, h, rfl, ⟨u, rfl, hb⟩, rfl⟩
  exact ⟨⟨x, y, o, u⟩, rfl, hb⟩
theorem o_stps : Opens Go.Proofs.Try.prog 33 fun ls => ∃ h : List Stp, ls = [.sl (h.map Stp.row)] ∧ h.length ≤ big ∧ ∀ x ∈ h, x.ans.pairs.length ≤ big := by
  refine (opens_slice (by kernel_rfl) o_stp (of_decide_eq_true (by kernel_rfl))).mono ?_
  rintro ls ⟨rows, rfl, hr, hb⟩
  obtain ⟨l, rfl, hl⟩ := rows_map hr
  exact ⟨l, rfl, by simpa using len_of (of_decide_eq_true (by kernel_rfl)) hb, hl⟩
section
variable {H : Type} {enc : TypeId × Value → H} {W : World} {base : Nat} {v : Value} {d : DataW H} {p : List MemPlace}
theorem arg_stps (hok : Value.okWide Go.Proofs.Try.prog W .any base 33 v) (h : DataW.Trod enc Go.Proofs.Try.prog W 0 (fun _ => true) true 33 v d p) (hw : ∀ n ∈ d.weights Go.Proofs.Try.prog 33, n ≤ reachBytes) :
    ∃ h : List Stp, ConcA (g0 Go.Proofs.Try.prog W) W (.l (.sl (h.map Stp.row))) v ∧ h.length ≤ big ∧ ∀ x ∈ h, x.ans.pairs.length ≤ big := by
  obtain ⟨x, h1, l, rfl, h2⟩ := arg_l (R := fun x => ∃ h : List Stp, x = .sl (h.map Stp.row) ∧ h.length ≤ big ∧ ∀ x ∈ h, x.ans.pairs.length ≤ big) (e := 31) (by kernel_rfl) (o_stps.mono fun ls ⟨l, h3, h4⟩ => ⟨_, h3, l, rfl, h4⟩) hok h hw
  exact ⟨l, h1, h2⟩
end
end Go.X
set_option linter.unusedVariables false
set_option linter.unusedSimpArgs false
set_option maxHeartbeats 20000000
set_option maxRecDepth 100000
namespace Go.X
open Go.Proofs.Try (prog)

theorem doA_errT {l : List Pr} {op : Opn} (hl : Asc l) (hm : mayOpB op = true) : (doA l op).err = 0 := by
  have hk : okOp l op = true := by rw [okOp, hm, bof_true ((rises_asc l).2 hl)]; rfl
  rw [doA, if_neg (by simp [hk])]
  split
  · rfl
  · split
    · rfl
    · split
      · split <;> rfl
      · split
        · split <;> rfl
        · rw [ansAt]; split <;> rfl
end Go.X
set_option linter.unusedVariables false
set_option linter.unusedSimpArgs false
set_option maxRecDepth 100000
namespace Go.X

theorem clAt_nat (C : List Cl) (n : Nat) : clAt C (n : Int) = C.getD n default := by rw [clAt, Int.toNat_natCast]
end Go.X
set_option linter.unusedVariables false
set_option linter.unusedSimpArgs false
set_option maxRecDepth 100000
namespace Go.X

noncomputable def goT (C : List Cl) (T : Int → Ans) : List Int → List Pr → Option (List Pr)
  | [], s => some s
  | i :: r, s => if doA s (clAt C i).op ≠ T i then none else goT C T r (doL s (clAt C i).op)
theorem goT_app {C : List Cl} {T : Int → Ans} : ∀ (A R : List Int) (s : List Pr), goT C T (A ++ R) s = (goT C T A s).bind (goT C T R)
  | [], R, s => rfl
  | i :: A, R, s => by
    rw [List.cons_append, goT, goT]
    split
    · rfl
    · exact goT_app A R _
theorem goT_congr {C C' : List Cl} {T T' : Int → Ans} : ∀ {l : List Int} (s : List Pr), (∀ x ∈ l, (clAt C x).op = (clAt C' x).op) → (∀ x ∈ l, T x = T' x) → goT C T l s = goT C' T' l s
  | [], s, _, _ => rfl
  | i :: r, s, h, h' => by
    rw [goT, goT, h i (by simp), h' i (by simp), goT_congr _ (fun x hx => h x (by simp [hx])) (fun x hx => h' x (by simp [hx]))]
theorem goT_goes {C : List Cl} {T : Int → Ans} : ∀ {l : List Int} {s s' : List Pr}, (∀ x ∈ l, 0 ≤ (clAt C x).fin → (clAt C x).ans = T x) → goT C T l s = some s' → goesO C l s = some s'
  | [], s, s', _, h => h
  | i :: r, s, s', h, h' => by
    rw [goT] at h'
    split at h'
    · cases h'
    · rename_i hd
      rw [goesO, if_neg (fun hh => hh.2 (by rw [h i (by simp) hh.1]; exact Classical.not_not.1 hd))]
      exact goT_goes (fun x hx => h x (by simp [hx])) h'

theorem rr_snoc {h : List Evt} {e : Evt} {out : List Cl} {ms : List (Int × Int)} {s' : List Cl × List (Int × Int)} (hr : rrun h 0 ([], []) = some (out, ms)) (hst : rstep h.length e (out, ms) = some s') :
    rrun (h ++ [e]) 0 ([], []) = some s' ∧ okP (h ++ [e]) = true ∧ callsP (h ++ [e]) = s'.1 := by
  have h1 : rrun (h ++ [e]) 0 ([], []) = some s' := by
    rw [rrun_app, hr, Option.bind_some, Nat.zero_add, rrun, hst]
    rfl
  exact ⟨h1, by rw [okP, readP, h1]; rfl, by rw [callsP, readP, h1]; rfl⟩
structure PInv (b0 : List Pr) (W : Wit) (h : List Evt) (T : Int → Ans) : Prop where
  ok : okP h = true
  six : W.ws.length = 6
  cal : W.calls = (callsP h).length
  rr : ∃ ms, rrun h 0 ([], []) = some (callsP h, ms) ∧ (∀ t : Nat, t < 6 → (W.ws.getD t default).busy = false → iget ms t = none) ∧
    (∀ t : Nat, t < 6 → (W.ws.getD t default).busy = true → ∃ k : Nat, k < (callsP h).length ∧ iget ms t = some ((k : Int) + 1) ∧ (W.ws.getD t default).call = k ∧ ((callsP h).getD k default).op = (W.ws.getD t default).op ∧ mayOpB (W.ws.getD t default).op = true)
  nd : W.ord.Nodup
  rng : ∀ x ∈ W.ord, 0 ≤ x ∧ x < (callsP h).length
  fin : ∀ j, j < (callsP h).length → 0 ≤ ((callsP h).getD j default).fin → ((j : Int) ∈ W.ord ↔ ((callsP h).getD j default).ans.err = 0)
  tk : ∀ t : Nat, t < 6 → (W.ws.getD t default).busy = true → ((W.ws.getD t default).took = true ↔ (W.ws.getD t default).call ∈ W.ord)
  ta : ∀ t : Nat, t < 6 → (W.ws.getD t default).busy = true → (W.ws.getD t default).took = true → T (W.ws.getD t default).call = (W.ws.getD t default).ans
  tf : ∀ x ∈ W.ord, 0 ≤ (clAt (callsP h) x).fin → (clAt (callsP h) x).ans = T x
  er : ∀ x ∈ W.ord, (T x).err = 0
  go : goT (callsP h) T W.ord b0 = some W.s
  tim : timelyB (callsP h) W.ord = true
  asc : Asc W.s
theorem PInv.right {b0 : List Pr} {W : Wit} {h : List Evt} {T : Int → Ans} (I : PInv b0 W h T) (hb : Asc b0) : (rightO b0 h W.ord).isSome = true := by
  rw [right_mk (bof_true ((rises_asc b0).2 hb)) I.ok (bof_true ⟨I.rng, I.nd, I.fin⟩) I.tim, putL_idO hb, goT_goes I.tf I.go]
  rfl
theorem PInv.init {b0 : List Pr} (hb : Asc b0) (T : Int → Ans) : PInv b0 (⟨b0, List.replicate 6 wk0, 0, []⟩) [] T := by
  have hr : rrun [] 0 ([], []) = some ([], []) := rfl
  have hc : callsP [] = [] := by rw [callsP, readP, hr]; rfl
  have hg : ∀ t : Nat, t < 6 → ((List.replicate 6 wk0).getD t default).busy = false := fun t ht => by
    match t, ht with
    | 0, _ => rfl
    | 1, _ => rfl
    | 2, _ => rfl
    | 3, _ => rfl
    | 4, _ => rfl
    | 5, _ => rfl
  refine ⟨by rw [okP, readP, hr]; rfl, rfl, by rw [hc]; rfl, ⟨[], by rw [hc]; exact hr, fun t _ _ => rfl, fun t ht hb => ?_⟩, by simp, by simp, fun j hj => by rw [hc] at hj; simp at hj, fun t ht hb => ?_, fun t ht hb => ?_, by simp, by simp, rfl, ?_, hb⟩
  · rw [hg t ht] at hb; cases hb
  · rw [hg t ht] at hb; cases hb
  · rw [hg t ht] at hb; cases hb
  · exact bof_true fun a b _ hb => by simp at hb
theorem ws_get {W : Wit} (h6 : W.ws.length = 6) {t u : Nat} (ht : t < 6) (w : Wk) : (W.ws.set t w).getD u default = if u = t then w else W.ws.getD u default := getD_set _ _ _ _ _ (by omega)
theorem PInv.call {b0 : List Pr} {W : Wit} {h : List Evt} {T : Int → Ans} (I : PInv b0 W h T) {t : Nat} (ht : t < 6) {op : Opn} (hc : canCall W t op = true) : PInv b0 (callW W t op) (h ++ [⟨t, false, op, ans0⟩]) T := by
  rw [canCall, Bool.and_eq_true, Bool.not_eq_true'] at hc
  obtain ⟨ms, hr, hoff, hon⟩ := I.rr
  obtain ⟨ms', hr', H⟩ := okP_inv I.ok
  rw [hr] at hr'
  cases hr'
  have hn := hoff t ht hc.1
  have hst : rstep h.length ⟨t, false, op, ans0⟩ (callsP h, ms) = some (callsP h ++ [⟨t, h.length, -1, op, ans0⟩], iput ms t ((callsP h).length + 1)) := by
    simp only [rstep]
    rw [if_neg (by omega), if_pos trivial, hn, if_neg (by simp [hc.2])]
  obtain ⟨hr2, hok2, hc2⟩ := rr_snoc hr hst
  simp only at hc2
  have hwg := fun u => ws_get (u := u) I.six ht ⟨true, op, W.calls, false, ans0⟩
  have hin := I.rng
  have hcl : ∀ x ∈ W.ord, clAt (callsP h ++ [⟨t, h.length, -1, op, ans0⟩]) x = clAt (callsP h) x := fun x hx => clAt_app (hin x hx).1 (hin x hx).2
  refine ⟨hok2, by simpa [callW] using I.six, by rw [hc2]; simp [callW, I.cal], ⟨_, by rw [hc2]; exact hr2, fun u hu hb => ?_, fun u hu hb => ?_⟩, I.nd, fun x hx => ?_, fun j hj h0 => ?_, fun u hu hb => ?_, fun u hu hb htk => ?_, fun x hx h0 => ?_, I.er, ?_, ?_, I.asc⟩
  · simp only [callW, hwg] at hb
    split at hb
    · cases hb
    · rename_i hne
      rw [iget_put, if_neg (by omega)]
      exact hoff u hu hb
  · rw [hc2]
    simp only [callW, hwg] at hb ⊢
    split
    · rename_i e
      subst e
      refine ⟨(callsP h).length, by simp, by rw [iget_put, if_pos rfl], by rw [I.cal], by rw [gd_app, if_neg (by omega), if_pos rfl], hc.2⟩
    · rename_i hne
      rw [if_neg hne] at hb
      obtain ⟨k, k1, k2, k3, k4, k5⟩ := hon u hu hb
      refine ⟨k, by rw [List.length_append]; omega, by rw [iget_put, if_neg (by omega)]; exact k2, k3, by rw [gd_app, if_pos k1]; exact k4, k5⟩
  · have := hin x hx
    rw [hc2, List.length_append]
    simp only [List.length_cons, List.length_nil]
    omega
  · rw [hc2] at hj h0 ⊢
    rw [gd_app] at h0 ⊢
    split
    · rename_i e
      rw [if_pos e] at h0
      exact I.fin j e h0
    · rename_i e
      rw [if_neg e] at h0
      rw [List.length_append] at hj
      simp only [List.length_cons, List.length_nil] at hj
      rw [if_pos (by omega)] at h0
      simp only at h0
      omega
  · simp only [callW, hwg] at hb ⊢
    split
    · simp only [Bool.false_eq_true, false_iff]
      intro hm
      have := hin _ hm
      rw [I.cal] at this
      omega
    · rename_i hne
      rw [if_neg hne] at hb
      exact I.tk u hu hb
  · simp only [callW, hwg] at hb htk ⊢
    split
    · rename_i e
      rw [if_pos e] at htk
      cases htk
    · rename_i hne
      rw [if_neg hne] at hb htk
      exact I.ta u hu hb htk
  · rw [hc2] at h0 ⊢
    have hx' : x ∈ W.ord := hx
    rw [hcl x hx'] at h0 ⊢
    exact I.tf x hx' h0
  · rw [hc2, goT_congr (C' := callsP h) (T' := T) _ (fun x hx => by rw [hcl x hx]) (fun x _ => rfl)]
    exact I.go
  · rw [hc2]
    exact timely_more hin I.tim
theorem PInv.took {b0 : List Pr} {W : Wit} {h : List Evt} {T : Int → Ans} (I : PInv b0 W h T) {t : Nat} (ht : t < 6) (hc : canTook W t = true) : ∃ T', PInv b0 (tookW W t) h T' := by
  rw [canTook, Bool.and_eq_true, Bool.not_eq_true'] at hc
  obtain ⟨ms, hr, hoff, hon⟩ := I.rr
  obtain ⟨ms', hr', H⟩ := okP_inv I.ok
  rw [hr] at hr'
  cases hr'
  obtain ⟨k, k1, k2, k3, k4, k5⟩ := hon t ht hc.1
  have hnot : (W.ws.getD t default).call ∉ W.ord := fun hm => by
    have := (I.tk t ht hc.1).2 hm
    rw [hc.2] at this
    cases this
  obtain ⟨k', e1, e2, e3, e4⟩ := H.map _ _ k2
  have ek : k' = k := by omega
  subst ek
  simp only at e3 e4
  have hclk : clAt (callsP h) (W.ws.getD t default).call = (callsP h).getD k' default := by rw [k3, clAt_nat]
  obtain ⟨w, hw⟩ : ∃ w, W.ws.getD t default = w := ⟨_, rfl⟩
  rw [hw] at hc k3 k4 k5 hnot hclk
  have hwg := fun u => ws_get (u := u) I.six ht { w with took := true, ans := doA W.s w.op }
  have hdiff : ∀ u : Nat, u < 6 → u ≠ t → (W.ws.getD u default).busy = true → (W.ws.getD u default).call ≠ w.call := fun u hu hne hb e => by
    obtain ⟨j, j1, j2, j3, j4, j5⟩ := hon u hu hb
    have : j = k' := by omega
    subst this
    obtain ⟨j', f1, f2, f3, f4⟩ := H.map _ _ j2
    have : j' = j := by omega
    subst this
    simp only at f3
    rw [e3] at f3
    exact hne (by omega)
  obtain ⟨T', hTc, hTo⟩ : ∃ T' : Int → Ans, T' w.call = doA W.s w.op ∧ ∀ x, x ≠ w.call → T' x = T x := ⟨fun x => if x = w.call then doA W.s w.op else T x, if_pos rfl, fun x hx => if_neg hx⟩
  refine ⟨T', I.ok, ?_, ?_, ⟨ms, hr, fun u hu hb => ?_, fun u hu hb => ?_⟩, ?_, fun x hx => ?_, fun j hj h0 => ?_, fun u hu hb => ?_, fun u hu hb htk => ?_, fun x hx h0 => ?_, fun x hx => ?_, ?_, ?_, ?_⟩
  · simpa [tookW] using I.six
  · exact I.cal
  · simp only [tookW, hw, hwg] at hb
    split at hb
    · simp only [hc.1] at hb; cases hb
    · exact hoff u hu hb
  · simp only [tookW, hw, hwg] at hb ⊢
    split
    · rename_i e
      subst e
      exact ⟨k', k1, k2, k3, k4, k5⟩
    · rename_i e
      rw [if_neg e] at hb
      exact hon u hu hb
  · simp only [tookW, hw]
    rw [List.nodup_append]
    refine ⟨I.nd, by simp, fun a ha b hb e => ?_⟩
    rw [List.mem_singleton.1 hb] at e
    exact hnot (e ▸ ha)
  · simp only [tookW, hw] at hx
    rcases List.mem_append.1 hx with hx | hx
    · exact I.rng x hx
    · rw [List.mem_singleton.1 hx]
      omega
  · simp only [tookW, hw, List.mem_append, List.mem_singleton]
    rw [← I.fin j hj h0]
    refine ⟨fun h => h.elim (fun h => h) fun h => ?_, .inl⟩
    have : j = k' := by omega
    subst this
    omega
  · simp only [tookW, hw, hwg] at hb ⊢
    split
    · simp
    · rename_i e
      rw [if_neg e] at hb
      rw [I.tk u hu hb, List.mem_append, List.mem_singleton]
      exact ⟨.inl, fun h => h.elim (fun h => h) fun h => absurd h (hdiff u hu e hb)⟩
  · simp only [tookW, hw, hwg] at hb htk ⊢
    split
    · exact hTc
    · rename_i e
      rw [if_neg e] at hb htk
      rw [hTo _ (hdiff u hu e hb)]
      exact I.ta u hu hb htk
  · simp only [tookW, hw] at hx
    rcases List.mem_append.1 hx with hx | hx
    · rw [hTo x (fun e => hnot (e ▸ hx))]
      exact I.tf x hx h0
    · rw [List.mem_singleton.1 hx, hclk] at h0
      omega
  · simp only [tookW, hw] at hx
    rcases List.mem_append.1 hx with hx | hx
    · rw [hTo x (fun e => hnot (e ▸ hx))]
      exact I.er x hx
    · rw [List.mem_singleton.1 hx, hTc]
      exact doA_errT I.asc k5
  · simp only [tookW, hw]
    rw [goT_app, goT_congr (C' := callsP h) (T' := T) _ (fun _ _ => rfl) (fun x hx => hTo x (fun e => hnot (e ▸ hx))), I.go, Option.bind_some, goT, hclk, k4, hTc, if_neg (by simp), goT]
  · simp only [tookW, hw]
    have h1 := I.tim
    rw [timely_pw, bof_iff] at h1 ⊢
    rw [List.pairwise_append]
    refine ⟨h1, by simp, fun a _ b hb => ?_⟩
    rw [List.mem_singleton.1 hb, hclk]
    intro hh
    have := hh.1
    omega
  · simp only [tookW, hw]
    exact doL_asc _ I.asc
theorem PInv.ret {b0 : List Pr} {W : Wit} {h : List Evt} {T : Int → Ans} (I : PInv b0 W h T) {t : Nat} (ht : t < 6) {a : Ans} (hc : retB W t a = true) : PInv b0 (retW W t) (h ++ [⟨t, true, (W.ws.getD t default).op, a⟩]) T := by
  rw [retB, Bool.and_eq_true] at hc
  obtain ⟨hbz, hans⟩ := hc
  obtain ⟨ms, hr, hoff, hon⟩ := I.rr
  obtain ⟨ms', hr', H⟩ := okP_inv I.ok
  rw [hr] at hr'
  cases hr'
  obtain ⟨k, k1, k2, k3, k4, k5⟩ := hon t ht hbz
  obtain ⟨k', e1, e2, e3, e4⟩ := H.map _ _ k2
  have ek : k' = k := by omega
  subst ek
  simp only at e3 e4
  have hrW : retW W t = { W with ws := W.ws.set t wk0 } := by rw [retW, if_pos hbz]
  rw [hrW]
  have htk := I.tk t ht hbz
  have hta := I.ta t ht hbz
  obtain ⟨w, hw⟩ : ∃ w, W.ws.getD t default = w := ⟨_, rfl⟩
  rw [hw] at hbz hans k3 k4 k5 htk hta ⊢
  have hwg := fun u => ws_get (u := u) I.six ht wk0
  have e1k : ((k' : Int) + 1 - 1).toNat = k' := by omega
  have hst : rstep h.length ⟨t, true, w.op, a⟩ (callsP h, ms) = some ((callsP h).set k' { (callsP h).getD k' default with fin := h.length, ans := a }, idel ms t) := by
    simp only [rstep]
    rw [if_neg (by omega), if_neg (by simp), k2]
    simp only [Option.getD_some, e1k]
    rw [if_neg (by rintro (h3 | h3); omega; exact h3 k4)]
  obtain ⟨hr2, hok2, hc2⟩ := rr_snoc hr hst
  simp only at hc2
  have hg : ∀ j, (callsP (h ++ [⟨t, true, w.op, a⟩])).getD j default = if j = k' then { (callsP h).getD k' default with fin := h.length, ans := a } else (callsP h).getD j default := fun j => by rw [hc2, gd_set _ _ _ _ k1]
  have hlen : (callsP (h ++ [⟨t, true, w.op, a⟩])).length = (callsP h).length := by rw [hc2, List.length_set]
  have hmem : w.call ∈ W.ord ↔ a.err = 0 := by
    rw [← htk]
    split at hans
    · rename_i e
      have ea := bof_iff.1 hans
      rw [← ea, ← hta e]
      exact ⟨fun _ => I.er _ (htk.1 e), fun _ => e⟩
    · rename_i e
      simp only [Bool.not_eq_true', decide_eq_false_iff_not] at hans
      exact ⟨fun h => absurd h e, fun h => absurd h hans⟩
  have hat : w.call ∈ W.ord → a = T w.call := fun hm => by
    have e := htk.2 hm
    rw [if_pos e] at hans
    rw [hta e, bof_iff.1 hans]
  have hcl : ∀ x, (clAt (callsP (h ++ [⟨t, true, w.op, a⟩])) x).op = (clAt (callsP h) x).op := fun x => by
    rw [clAt, hg]
    split
    · rename_i e
      rw [clAt, e]
    · rfl
  have hclb : ∀ x, (clAt (callsP (h ++ [⟨t, true, w.op, a⟩])) x).beg = (clAt (callsP h) x).beg := fun x => by
    rw [clAt, hg]
    split
    · rename_i e
      rw [clAt, e]
    · rfl
  refine ⟨hok2, by simpa using I.six, by rw [hlen]; exact I.cal, ⟨idel ms t, by rw [hr2, hc2], fun u hu hb => ?_, fun u hu hb => ?_⟩, I.nd, by rw [hlen]; exact I.rng, fun j hj h0 => ?_, fun u hu hb => ?_, fun u hu hb htk => ?_, fun x hx h0 => ?_, I.er, ?_, ?_, I.asc⟩
  · simp only [hwg] at hb
    rw [iget_del H.nod]
    split
    · rfl
    · rename_i e
      rw [if_neg (by omega)] at hb
      exact hoff u hu hb
  · simp only [hwg] at hb ⊢
    split
    · rename_i e
      rw [if_pos e] at hb
      cases hb
    · rename_i e
      rw [if_neg e] at hb
      obtain ⟨j, j1, j2, j3, j4, j5⟩ := hon u hu hb
      refine ⟨j, by omega, by rw [iget_del H.nod, if_neg (by omega)]; exact j2, j3, ?_, j5⟩
      rw [hg]
      split
      · rename_i e2
        rw [e2] at j4
        exact j4
      · exact j4
  · rw [hg] at h0 ⊢
    split
    · rename_i e
      rw [e, ← k3]
      exact hmem
    · rename_i e
      rw [if_neg e] at h0
      exact I.fin j (by omega) h0
  · simp only [hwg] at hb ⊢
    split
    · rename_i e
      rw [if_pos e] at hb
      cases hb
    · rename_i e
      rw [if_neg e] at hb
      exact I.tk u hu hb
  · simp only [hwg] at hb htk ⊢
    split
    · rename_i e
      rw [if_pos e] at hb
      cases hb
    · rename_i e
      rw [if_neg e] at hb htk
      exact I.ta u hu hb htk
  · have hx' : x ∈ W.ord := hx
    have hxr := I.rng x hx'
    rw [clAt, hg] at h0 ⊢
    split
    · rename_i e
      have ex : x = w.call := by omega
      rw [ex] at hx' ⊢
      exact hat hx'
    · rename_i e
      rw [if_neg e] at h0
      exact I.tf x hx' h0
  · rw [goT_congr (C' := callsP h) (T' := T) _ (fun x hx => hcl x) (fun x _ => rfl)]
    exact I.go
  · have h1 := I.tim
    rw [timely_pw, bof_iff] at h1 ⊢
    refine h1.imp_of_mem fun {x y} hx hy hxy hh => hxy ?_
    have hxr := I.rng x hx
    have hyr := I.rng y hy
    obtain ⟨h2, h3⟩ := hh
    rw [hclb] at h3
    rw [clAt, hg] at h2 h3
    split at h2
    · rename_i e
      rw [if_pos e] at h3
      obtain ⟨b, hb1, hb2, _⟩ := H.beg x.toNat (by simp only; omega)
      simp only at hb2 h3
      rw [clAt] at h3
      omega
    · rename_i e
      rw [if_neg e] at h3
      exact ⟨h2, h3⟩
end Go.X
set_option linter.unusedVariables false
set_option linter.unusedSimpArgs false
set_option maxHeartbeats 20000000
set_option maxRecDepth 100000
namespace Go.X
open Go.Proofs.Try (prog)

theorem WIn.ext {B M : Mem} {id mid : Nat} {o : Lf} {W : Wit} (h : WIn B M id mid o W) {i : Nat} (hi : ∀ j, i ≤ j → M j = none) (X : Blk) : WIn (B.set i X) (M.set i X) id mid o W := by
  have k1 := lt_of_bnd hi h.own
  have k2 := lt_of_bnd hi h.map
  have hn := h.new hi X
  refine ⟨fun k bk hk => ?_, by rw [Mem.set_ne _ _ _ _ (by omega)]; exact h.nid, by rw [Mem.set_ne _ _ _ _ (by omega)]; exact h.nmid, h.ne, h.six, hn.own, hn.map, ?_⟩
  · rw [Mem.set_app] at hk ⊢
    by_cases e : i = k
    · rw [if_pos e] at hk ⊢
      exact hk
    · rw [if_neg e] at hk ⊢
      exact h.le _ _ hk
  · rcases hn.ord with h1 | ⟨idO, a1, a2, a3, a4, a5⟩
    · exact .inl h1
    · refine .inr ⟨idO, ?_, a2, a3, a4, a5⟩
      rcases h.ord with ⟨h1, h2⟩ | ⟨idO', b1, b2, b3, b4, b5⟩
      · rw [h2] at a4; cases a4
      · rw [b4] at a4
        cases a4
        have := lt_of_bnd hi b5
        rw [Mem.set_ne _ _ _ _ (by omega)]
        exact b1
theorem WIn.sub {B B' M : Mem} {id mid : Nat} {o : Lf} {W : Wit} (h : WIn B' M id mid o W) (hle : B.le B') : WIn B M id mid o W := by
  have hn : ∀ k, B' k = none → B k = none := fun k hk => by
    cases hm : B k with
    | none => rfl
    | some bk => rw [hle _ _ hm] at hk; cases hk
  refine ⟨fun k bk hk => h.le _ _ (hle _ _ hk), hn _ h.nid, hn _ h.nmid, h.ne, h.six, h.own, h.map, ?_⟩
  rcases h.ord with h1 | ⟨idO, a1, a2, a3, a4, a5⟩
  · exact .inl h1
  · exact .inr ⟨idO, hn _ a1, a2, a3, a4, a5⟩
end Go.X
